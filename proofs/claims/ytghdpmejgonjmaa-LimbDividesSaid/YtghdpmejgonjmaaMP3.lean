/- Printed functions: each says what the typed machine says of the program -/
import Derived.Test.YtghdpmejgonjmaaMP2
import Derived.KernelRfl

set_option linter.unusedVariables false
set_option maxRecDepth 100000
namespace Go.Proofs.Ytghdpmejgonjmaa.Am
open Go
noncomputable section

/-! shunt/shuntref01.Number -/
def Lshuntref01_Number_0s (k : Nat) (rec : ((ByteArray × Bool × Int × Bool × Nat × Bool × Nat × Bool × List Int × List Int × List Int) ⊕ (ByteArray × Bool × Int × Bool × Nat × Bool × List Int × Bool × List Int × List Int)) → Option ((Bool × Bool × Bool × Nat × Bool × List Int × List Int × List Int) ⊕ (Bool × Bool × Nat × Bool × Nat × Bool × List Int × List Int × List Int) ⊕ (Bool × Bool × Bool × List Int × Bool × List Int × List Int) ⊕ (Bool × Bool × Nat × Bool × List Int × Bool × List Int × List Int))) (x : (ByteArray × Bool × Int × Bool × Nat × Bool × Nat × Bool × List Int × List Int × List Int) ⊕ (ByteArray × Bool × Int × Bool × Nat × Bool × List Int × Bool × List Int × List Int)) : Option ((Bool × Bool × Bool × Nat × Bool × List Int × List Int × List Int) ⊕ (Bool × Bool × Nat × Bool × Nat × Bool × List Int × List Int × List Int) ⊕ (Bool × Bool × Bool × List Int × Bool × List Int × List Int) ⊕ (Bool × Bool × Nat × Bool × List Int × Bool × List Int × List Int)) :=
  eitherK x
  (fun x =>
  if ((decide (x.2.2.1 < (((ByteArray.size x.1) : Nat) : Int))) = true) then
    if ((0 : Int) ≤ x.2.2.1) then
      Option.bind ((ByteArray.data x.1))[(Int.toNat x.2.2.1)]? fun x2 =>
      if ((decide ((((UInt8.toNat x2) : Nat) : Int) < (48 : Int))) = false) then
        if ((0 : Int) ≤ x.2.2.1) then
          Option.bind ((ByteArray.data x.1))[(Int.toNat x.2.2.1)]? fun x3 =>
          if ((decide ((((UInt8.toNat x3) : Nat) : Int) > (57 : Int))) = true) then
            (some (Sum.inl (false, false, x.2.2.2.2.2.1, x.2.2.2.2.2.2.1, x.2.2.2.2.2.2.2.1, x.2.2.2.2.2.2.2.2.1, x.2.2.2.2.2.2.2.2.2.1, x.2.2.2.2.2.2.2.2.2.2)))
          else
          if ((0 + x.2.2.2.2.2.2.1) ≤ (List.length x.2.2.2.2.2.2.2.2.2.2)) then
            Option.bind (Fshuntref01_Times k x.2.2.2.2.2.1 (List.take x.2.2.2.2.2.2.1 x.2.2.2.2.2.2.2.2.2.2) x.2.2.2.2.2.2.2.1 x.2.2.2.2.2.2.2.2.1) fun r3 =>
            if ((0 : Int) ≤ x.2.2.1) then
              Option.bind ((ByteArray.data x.1))[(Int.toNat x.2.2.1)]? fun x4 =>
              Option.bind (Fshuntref01_Small k (IntKind.wrap .i64 (IntKind.wrap .u8 ((((UInt8.toNat x4) : Nat) : Int) - (48 : Int))))) fun r4 =>
              Option.bind (Fshuntref01_Plus k r3.1 r3.2 r4.1 r4.2) fun r5 =>
              rec (Sum.inr (x.1, x.2.1, (IntKind.wrap .i64 (x.2.2.1 + (1 : Int))), x.2.2.2.1, x.2.2.2.2.1, r5.1, r5.2, x.2.2.2.2.2.2.2.1, x.2.2.2.2.2.2.2.2.1, x.2.2.2.2.2.2.2.2.2.1))
            else
            none
          else
          none
        else
        none
      else
      (some (Sum.inl (false, false, x.2.2.2.2.2.1, x.2.2.2.2.2.2.1, x.2.2.2.2.2.2.2.1, x.2.2.2.2.2.2.2.2.1, x.2.2.2.2.2.2.2.2.2.1, x.2.2.2.2.2.2.2.2.2.2)))
    else
    none
  else
  (some (Sum.inr (Sum.inl (x.2.1, x.2.2.2.1, x.2.2.2.2.1, x.2.2.2.2.2.1, x.2.2.2.2.2.2.1, x.2.2.2.2.2.2.2.1, x.2.2.2.2.2.2.2.2.1, x.2.2.2.2.2.2.2.2.2.1, x.2.2.2.2.2.2.2.2.2.2)))))
  (fun x =>
  if ((decide (x.2.2.1 < (((ByteArray.size x.1) : Nat) : Int))) = true) then
    if ((0 : Int) ≤ x.2.2.1) then
      Option.bind ((ByteArray.data x.1))[(Int.toNat x.2.2.1)]? fun x2 =>
      if ((decide ((((UInt8.toNat x2) : Nat) : Int) < (48 : Int))) = false) then
        if ((0 : Int) ≤ x.2.2.1) then
          Option.bind ((ByteArray.data x.1))[(Int.toNat x.2.2.1)]? fun x3 =>
          if ((decide ((((UInt8.toNat x3) : Nat) : Int) > (57 : Int))) = true) then
            (some (Sum.inr (Sum.inr (Sum.inl (false, false, x.2.2.2.2.2.1, x.2.2.2.2.2.2.1, x.2.2.2.2.2.2.2.1, x.2.2.2.2.2.2.2.2.1, x.2.2.2.2.2.2.2.2.2)))))
          else
          Option.bind (Fshuntref01_Times k x.2.2.2.2.2.1 x.2.2.2.2.2.2.1 x.2.2.2.2.2.2.2.1 x.2.2.2.2.2.2.2.2.1) fun r3 =>
          if ((0 : Int) ≤ x.2.2.1) then
            Option.bind ((ByteArray.data x.1))[(Int.toNat x.2.2.1)]? fun x4 =>
            Option.bind (Fshuntref01_Small k (IntKind.wrap .i64 (IntKind.wrap .u8 ((((UInt8.toNat x4) : Nat) : Int) - (48 : Int))))) fun r4 =>
            Option.bind (Fshuntref01_Plus k r3.1 r3.2 r4.1 r4.2) fun r5 =>
            rec (Sum.inr (x.1, x.2.1, (IntKind.wrap .i64 (x.2.2.1 + (1 : Int))), x.2.2.2.1, x.2.2.2.2.1, r5.1, r5.2, x.2.2.2.2.2.2.2.1, x.2.2.2.2.2.2.2.2.1, x.2.2.2.2.2.2.2.2.2))
          else
          none
        else
        none
      else
      (some (Sum.inr (Sum.inr (Sum.inl (false, false, x.2.2.2.2.2.1, x.2.2.2.2.2.2.1, x.2.2.2.2.2.2.2.1, x.2.2.2.2.2.2.2.2.1, x.2.2.2.2.2.2.2.2.2)))))
    else
    none
  else
  (some (Sum.inr (Sum.inr (Sum.inr (x.2.1, x.2.2.2.1, x.2.2.2.2.1, x.2.2.2.2.2.1, x.2.2.2.2.2.2.1, x.2.2.2.2.2.2.2.1, x.2.2.2.2.2.2.2.2.1, x.2.2.2.2.2.2.2.2.2))))))
def Lshuntref01_Number_0 (k n : Nat) : ((ByteArray × Bool × Int × Bool × Nat × Bool × Nat × Bool × List Int × List Int × List Int) ⊕ (ByteArray × Bool × Int × Bool × Nat × Bool × List Int × Bool × List Int × List Int)) → Option ((Bool × Bool × Bool × Nat × Bool × List Int × List Int × List Int) ⊕ (Bool × Bool × Nat × Bool × Nat × Bool × List Int × List Int × List Int) ⊕ (Bool × Bool × Bool × List Int × Bool × List Int × List Int) ⊕ (Bool × Bool × Nat × Bool × List Int × Bool × List Int × List Int)) := Nat.rec (fun _ => none) (fun _ r => Lshuntref01_Number_0s k r) n
def bshuntref01_Number (k : Nat) (s : ByteArray) : Option (Bool × List Int × Bool) :=
  if ((decide ((((ByteArray.size s) : Nat) : Int) > (0 : Int))) = true) then
    Option.bind ((ByteArray.data s))[0]? fun x =>
    if (((((UInt8.toNat x) : Nat) : Int) == (45 : Int)) = true) then
      if (((((ByteArray.size s) : Nat) : Int) == (1 : Int)) = false) then
        Option.bind ((ByteArray.data s))[1]? fun x1 =>
        if (((((UInt8.toNat x1) : Nat) : Int) == (48 : Int)) = true) then
          if (((((UInt8.toNat x) : Nat) : Int) == (45 : Int)) = false) then
            if ((decide ((((ByteArray.size s) : Nat) : Int) > (1 : Int))) = true) then
              (some (false, [], false))
            else
            Option.bind (Fshuntref01_Small k (10 : Int)) fun r2 =>
            Option.bind (Lshuntref01_Number_0 k k (Sum.inl (s, ((((UInt8.toNat x) : Nat) : Int) == (45 : Int)), (1 : Int), false, 0, false, 0, r2.1, r2.2, [], []))) fun r3 =>
            eitherK r3
              (fun r3 =>
              (some (r3.2.1, [], r3.1)))
              (fun r3 =>
              eitherK r3
                (fun r3 =>
                if (r3.1 = true) then
                  if ((0 + r3.2.2.2.2.1) ≤ (List.length r3.2.2.2.2.2.2.2.2)) then
                    Option.bind (Fshuntref01_Minus k r3.2.2.2.1 (List.take r3.2.2.2.2.1 r3.2.2.2.2.2.2.2.2)) fun r4 =>
                    (some (r4.1, r4.2, true))
                  else
                  none
                else
                if ((0 + r3.2.2.2.2.1) ≤ (List.length r3.2.2.2.2.2.2.2.2)) then
                  (some (r3.2.2.2.1, (List.take r3.2.2.2.2.1 r3.2.2.2.2.2.2.2.2), true))
                else
                none)
                (fun r3 =>
                eitherK r3
                  (fun r3 =>
                  (some (r3.2.1, [], r3.1)))
                  (fun r3 =>
                  if (r3.1 = true) then
                    Option.bind (Fshuntref01_Minus k r3.2.2.2.1 r3.2.2.2.2.1) fun r4 =>
                    (some (r4.1, r4.2, true))
                  else
                  (some (r3.2.2.2.1, r3.2.2.2.2.1, true)))))
          else
          (some (false, [], false))
        else
        Option.bind (Fshuntref01_Small k (10 : Int)) fun r2 =>
        Option.bind (Lshuntref01_Number_0 k k (Sum.inl (s, ((((UInt8.toNat x) : Nat) : Int) == (45 : Int)), (1 : Int), false, 0, false, 0, r2.1, r2.2, [], []))) fun r3 =>
        eitherK r3
          (fun r3 =>
          (some (r3.2.1, [], r3.1)))
          (fun r3 =>
          eitherK r3
            (fun r3 =>
            if (r3.1 = true) then
              if ((0 + r3.2.2.2.2.1) ≤ (List.length r3.2.2.2.2.2.2.2.2)) then
                Option.bind (Fshuntref01_Minus k r3.2.2.2.1 (List.take r3.2.2.2.2.1 r3.2.2.2.2.2.2.2.2)) fun r4 =>
                (some (r4.1, r4.2, true))
              else
              none
            else
            if ((0 + r3.2.2.2.2.1) ≤ (List.length r3.2.2.2.2.2.2.2.2)) then
              (some (r3.2.2.2.1, (List.take r3.2.2.2.2.1 r3.2.2.2.2.2.2.2.2), true))
            else
            none)
            (fun r3 =>
            eitherK r3
              (fun r3 =>
              (some (r3.2.1, [], r3.1)))
              (fun r3 =>
              if (r3.1 = true) then
                Option.bind (Fshuntref01_Minus k r3.2.2.2.1 r3.2.2.2.2.1) fun r4 =>
                (some (r4.1, r4.2, true))
              else
              (some (r3.2.2.2.1, r3.2.2.2.2.1, true)))))
      else
      (some (false, [], false))
    else
    if (((((ByteArray.size s) : Nat) : Int) == (0 : Int)) = false) then
      Option.bind ((ByteArray.data s))[0]? fun x1 =>
      if (((((UInt8.toNat x1) : Nat) : Int) == (48 : Int)) = true) then
        if (((((UInt8.toNat x) : Nat) : Int) == (45 : Int)) = false) then
          if ((decide ((((ByteArray.size s) : Nat) : Int) > (1 : Int))) = true) then
            (some (false, [], false))
          else
          Option.bind (Fshuntref01_Small k (10 : Int)) fun r2 =>
          Option.bind (Lshuntref01_Number_0 k k (Sum.inl (s, ((((UInt8.toNat x) : Nat) : Int) == (45 : Int)), (0 : Int), false, 0, false, 0, r2.1, r2.2, [], []))) fun r3 =>
          eitherK r3
            (fun r3 =>
            (some (r3.2.1, [], r3.1)))
            (fun r3 =>
            eitherK r3
              (fun r3 =>
              if (r3.1 = true) then
                if ((0 + r3.2.2.2.2.1) ≤ (List.length r3.2.2.2.2.2.2.2.2)) then
                  Option.bind (Fshuntref01_Minus k r3.2.2.2.1 (List.take r3.2.2.2.2.1 r3.2.2.2.2.2.2.2.2)) fun r4 =>
                  (some (r4.1, r4.2, true))
                else
                none
              else
              if ((0 + r3.2.2.2.2.1) ≤ (List.length r3.2.2.2.2.2.2.2.2)) then
                (some (r3.2.2.2.1, (List.take r3.2.2.2.2.1 r3.2.2.2.2.2.2.2.2), true))
              else
              none)
              (fun r3 =>
              eitherK r3
                (fun r3 =>
                (some (r3.2.1, [], r3.1)))
                (fun r3 =>
                if (r3.1 = true) then
                  Option.bind (Fshuntref01_Minus k r3.2.2.2.1 r3.2.2.2.2.1) fun r4 =>
                  (some (r4.1, r4.2, true))
                else
                (some (r3.2.2.2.1, r3.2.2.2.2.1, true)))))
        else
        (some (false, [], false))
      else
      Option.bind (Fshuntref01_Small k (10 : Int)) fun r2 =>
      Option.bind (Lshuntref01_Number_0 k k (Sum.inl (s, ((((UInt8.toNat x) : Nat) : Int) == (45 : Int)), (0 : Int), false, 0, false, 0, r2.1, r2.2, [], []))) fun r3 =>
      eitherK r3
        (fun r3 =>
        (some (r3.2.1, [], r3.1)))
        (fun r3 =>
        eitherK r3
          (fun r3 =>
          if (r3.1 = true) then
            if ((0 + r3.2.2.2.2.1) ≤ (List.length r3.2.2.2.2.2.2.2.2)) then
              Option.bind (Fshuntref01_Minus k r3.2.2.2.1 (List.take r3.2.2.2.2.1 r3.2.2.2.2.2.2.2.2)) fun r4 =>
              (some (r4.1, r4.2, true))
            else
            none
          else
          if ((0 + r3.2.2.2.2.1) ≤ (List.length r3.2.2.2.2.2.2.2.2)) then
            (some (r3.2.2.2.1, (List.take r3.2.2.2.2.1 r3.2.2.2.2.2.2.2.2), true))
          else
          none)
          (fun r3 =>
          eitherK r3
            (fun r3 =>
            (some (r3.2.1, [], r3.1)))
            (fun r3 =>
            if (r3.1 = true) then
              Option.bind (Fshuntref01_Minus k r3.2.2.2.1 r3.2.2.2.2.1) fun r4 =>
              (some (r4.1, r4.2, true))
            else
            (some (r3.2.2.2.1, r3.2.2.2.2.1, true)))))
    else
    (some (false, [], false))
  else
  if (((((ByteArray.size s) : Nat) : Int) == (0 : Int)) = false) then
    Option.bind ((ByteArray.data s))[0]? fun x =>
    if (((((UInt8.toNat x) : Nat) : Int) == (48 : Int)) = true) then
      if ((decide ((((ByteArray.size s) : Nat) : Int) > (1 : Int))) = true) then
        (some (false, [], false))
      else
      Option.bind (Fshuntref01_Small k (10 : Int)) fun r2 =>
      Option.bind (Lshuntref01_Number_0 k k (Sum.inl (s, false, (0 : Int), false, 0, false, 0, r2.1, r2.2, [], []))) fun r3 =>
      eitherK r3
        (fun r3 =>
        (some (r3.2.1, [], r3.1)))
        (fun r3 =>
        eitherK r3
          (fun r3 =>
          if (r3.1 = true) then
            if ((0 + r3.2.2.2.2.1) ≤ (List.length r3.2.2.2.2.2.2.2.2)) then
              Option.bind (Fshuntref01_Minus k r3.2.2.2.1 (List.take r3.2.2.2.2.1 r3.2.2.2.2.2.2.2.2)) fun r4 =>
              (some (r4.1, r4.2, true))
            else
            none
          else
          if ((0 + r3.2.2.2.2.1) ≤ (List.length r3.2.2.2.2.2.2.2.2)) then
            (some (r3.2.2.2.1, (List.take r3.2.2.2.2.1 r3.2.2.2.2.2.2.2.2), true))
          else
          none)
          (fun r3 =>
          eitherK r3
            (fun r3 =>
            (some (r3.2.1, [], r3.1)))
            (fun r3 =>
            if (r3.1 = true) then
              Option.bind (Fshuntref01_Minus k r3.2.2.2.1 r3.2.2.2.2.1) fun r4 =>
              (some (r4.1, r4.2, true))
            else
            (some (r3.2.2.2.1, r3.2.2.2.2.1, true)))))
    else
    Option.bind (Fshuntref01_Small k (10 : Int)) fun r2 =>
    Option.bind (Lshuntref01_Number_0 k k (Sum.inl (s, false, (0 : Int), false, 0, false, 0, r2.1, r2.2, [], []))) fun r3 =>
    eitherK r3
      (fun r3 =>
      (some (r3.2.1, [], r3.1)))
      (fun r3 =>
      eitherK r3
        (fun r3 =>
        if (r3.1 = true) then
          if ((0 + r3.2.2.2.2.1) ≤ (List.length r3.2.2.2.2.2.2.2.2)) then
            Option.bind (Fshuntref01_Minus k r3.2.2.2.1 (List.take r3.2.2.2.2.1 r3.2.2.2.2.2.2.2.2)) fun r4 =>
            (some (r4.1, r4.2, true))
          else
          none
        else
        if ((0 + r3.2.2.2.2.1) ≤ (List.length r3.2.2.2.2.2.2.2.2)) then
          (some (r3.2.2.2.1, (List.take r3.2.2.2.2.1 r3.2.2.2.2.2.2.2.2), true))
        else
        none)
        (fun r3 =>
        eitherK r3
          (fun r3 =>
          (some (r3.2.1, [], r3.1)))
          (fun r3 =>
          if (r3.1 = true) then
            Option.bind (Fshuntref01_Minus k r3.2.2.2.1 r3.2.2.2.2.1) fun r4 =>
            (some (r4.1, r4.2, true))
          else
          (some (r3.2.2.2.1, r3.2.2.2.2.1, true)))))
  else
  (some (false, [], false))
def Fshuntref01_Number : Nat → ByteArray → Option (Bool × List Int × Bool)
  | 0, _ => none
  | k + 1, s => bshuntref01_Number k s
def shshuntref01_Number : FS := { vs := [.a (.lf .str)], bs := [] }
def rsshuntref01_Number : List FS := [{ vs := [.g [.lf .bool, .lf (.sl (.int .i64))], .a (.lf .bool)], bs := [] }]
def Ishuntref01_Number (k : Nat) : Inst := ⟨64, shshuntref01_Number, rsshuntref01_Number, fun x => Fshuntref01_Number k x⟩
theorem alshuntref01_Number (k : Nat) : AllI (call cf k) [Ishuntref01_Small k, Ishuntref01_Times k, Ishuntref01_Plus k, Ishuntref01_Minus k] := And.intro (okshuntref01_Small k) (And.intro (okshuntref01_Times k) (And.intro (okshuntref01_Plus k) (And.intro (okshuntref01_Minus k) (True.intro))))
def hsshuntref01_Number_0 : List SS := [{ fr := [(0, .a (.lf .str)), (2, .a (.ptr 0 0 0)), (4, .a (.lf .bool)), (6, .a (.ptr 1 0 0)), (7, .a (.ptr 2 0 0)), (8, .a (.lf (.int .i64)))], mem := [(0, some (.raw [[.lf .bool, .smz 3]] 2 50 false false)), (1, some (.raw [[.lf .bool, .smz 4]] 2 50 false false)), (2, some (.raw [[.lf .bool, .lf (.sl (.int .i64))]] 2 50 true false)), (3, some (.arr (.int .i64) 1 3 false)), (4, some (.arr (.int .i64) 1 3 false))], nx := 5 }, { fr := [(0, .a (.lf .str)), (2, .a (.ptr 0 0 0)), (4, .a (.lf .bool)), (6, .a (.ptr 1 0 0)), (7, .a (.ptr 2 0 0)), (8, .a (.lf (.int .i64)))], mem := [(0, some (.raw [[.lf .bool, .smz 3]] 2 50 false false)), (1, some (.raw [[.lf .bool, .lf (.sl (.int .i64))]] 2 50 true false)), (2, some (.raw [[.lf .bool, .lf (.sl (.int .i64))]] 2 50 true false)), (3, some (.arr (.int .i64) 1 3 false))], nx := 4 }]
def osshuntref01_Number_0 : List OS := [⟨none, { fr := [(2, .a (.ptr 0 0 0)), (3, .a (.lf .bool))], mem := [(0, some (.raw [[.lf .bool, .snil 1 3]] 2 50 false false)), (1, some (.raw [[.lf .bool, .smz 4]] 2 50 false false)), (2, some (.raw [[.lf .bool, .lf (.sl (.int .i64))]] 2 50 true false)), (3, some (.arr (.int .i64) 1 3 false)), (4, some (.arr (.int .i64) 1 3 false))], nx := 5 }⟩, ⟨some 0, { fr := [(2, .a (.ptr 0 0 0)), (4, .a (.lf .bool)), (6, .a (.ptr 1 0 0))], mem := [(0, some (.raw [[.lf .bool, .smz 3]] 2 50 false false)), (1, some (.raw [[.lf .bool, .smz 4]] 2 50 false false)), (2, some (.raw [[.lf .bool, .lf (.sl (.int .i64))]] 2 50 true false)), (3, some (.arr (.int .i64) 1 3 false)), (4, some (.arr (.int .i64) 1 3 false))], nx := 5 }⟩, ⟨none, { fr := [(2, .a (.ptr 0 0 0)), (3, .a (.lf .bool))], mem := [(0, some (.raw [[.lf .bool, .snil 1 3]] 2 50 false false)), (1, some (.raw [[.lf .bool, .lf (.sl (.int .i64))]] 2 50 true false)), (2, some (.raw [[.lf .bool, .lf (.sl (.int .i64))]] 2 50 true false)), (3, some (.arr (.int .i64) 1 3 false))], nx := 4 }⟩, ⟨some 0, { fr := [(2, .a (.ptr 0 0 0)), (4, .a (.lf .bool)), (6, .a (.ptr 1 0 0))], mem := [(0, some (.raw [[.lf .bool, .smz 3]] 2 50 false false)), (1, some (.raw [[.lf .bool, .lf (.sl (.int .i64))]] 2 50 true false)), (2, some (.raw [[.lf .bool, .lf (.sl (.int .i64))]] 2 50 true false)), (3, some (.arr (.int .i64) 1 3 false))], nx := 4 }⟩]
def LIshuntref01_Number_0 (k : Nat) : LInst := ⟨0, hsshuntref01_Number_0, osshuntref01_Number_0, fun x => Lshuntref01_Number_0 k k x⟩
theorem anshuntref01_Number_0 (k : Nat) : LAll (LOk (R := DS OS.D osshuntref01_Number_0) (fun b _ σ K => LOt Ty (kps 64) 0 b σ K []) cf (call cf k) (kps 64) Try.f64.ntmps k 0) 0 (lb Try.f64 0) :=
  And.intro (And.intro (True.intro) (And.intro (True.intro) (True.intro))) (And.intro (And.intro (And.intro (True.intro) (And.intro (And.intro (True.intro) (True.intro)) (True.intro))) (True.intro)) (True.intro))
theorem stshuntref01_Number_0 (k n : Nat) (x : DS SS.D hsshuntref01_Number_0) : Lshuntref01_Number_0 k (n + 1) x = encSK SS.enc (fun σ => run2 cf (fun f a b K => COt f a b K [Ishuntref01_Small k, Ishuntref01_Times k, Ishuntref01_Plus k, Ishuntref01_Minus k]) (fun b _ σ K => LOt Ty (kps 64) 0 b σ K []) Try.f64.ntmps 0 (lb Try.f64 0) σ (nextK Ty (kps 64 0) 0 hsshuntref01_Number_0 osshuntref01_Number_0 fun x => Lshuntref01_Number_0 k n x)) hsshuntref01_Number_0 x := by kernel_rfl
theorem loshuntref01_Number_0 (k : Nat) : LIOk cf (call cf k) (kps 64) Try.f64.ntmps k 0 0 (lb Try.f64 0) (LIshuntref01_Number_0 k) :=
  loop_ok (c := cf) (callF := call cf k) (kp := kps 64) (nt := Try.f64.ntmps) (k := k) (p := 0) (b := 0) (x0 := lb Try.f64 0) (hs := hsshuntref01_Number_0) (os := osshuntref01_Number_0) (COt_ok (alshuntref01_Number k)) (anshuntref01_Number_0 k) (fun n x => Lshuntref01_Number_0 k n x) (fun _ => rfl) (stshuntref01_Number_0 k)
theorem anshuntref01_Number (k : Nat) : LAll (LOk (R := DS FS.D rsshuntref01_Number) (fun b _ σ K => LOt Ty (kps 64) 0 b σ K [LIshuntref01_Number_0 k]) cf (call cf k) (cf.keep 64) Try.f64.ntmps k shshuntref01_Number.bs.length) 0 (bd Try.f64) :=
  And.intro (True.intro) (And.intro (True.intro) (And.intro (True.intro) (And.intro (And.intro (True.intro) (And.intro (True.intro) (True.intro))) (And.intro (And.intro (True.intro) (And.intro (And.intro (True.intro) (True.intro)) (True.intro))) (And.intro (True.intro) (And.intro (True.intro) (And.intro (And.intro (True.intro) (LOt_ok (c := cf) (callF := call cf k) (kp := kps 64) (nt := Try.f64.ntmps) (k := k) (p := 0) (b := 0) (x0 := lb Try.f64 0) (l := [LIshuntref01_Number_0 k]) (And.intro (fun _ => loshuntref01_Number_0 k) (True.intro)))) (And.intro (And.intro (True.intro) (And.intro (True.intro) (True.intro))) (And.intro (True.intro) (True.intro))))))))))
theorem stshuntref01_Number (k : Nat) (x : shshuntref01_Number.D) : Fshuntref01_Number (k + 1) x = body2 cf (fun f a b K => COt f a b K [Ishuntref01_Small k, Ishuntref01_Times k, Ishuntref01_Plus k, Ishuntref01_Minus k]) (fun b _ σ K => LOt Ty (kps 64) 0 b σ K [LIshuntref01_Number_0 k]) 64 Try.f64.ntmps Try.f64.results.toList (bd Try.f64) (shshuntref01_Number.enc x).1 (shshuntref01_Number.enc x).2 (putS FS.dec rsshuntref01_Number) := by kernel_rfl
theorem okshuntref01_Number : ∀ k, InstOk (call cf k) (Ishuntref01_Number k)
  | 0 => fun x y e => absurd (show (none : Option _) = some y from e) (by simp)
  | k + 1 => inst_ok (c := cf) (k := k) (f := 64) (fn := Try.f64) (body := bd Try.f64) (sh := shshuntref01_Number) (os := rsshuntref01_Number) rfl Try.func64 rfl ⟨rfl, Nat.le_of_ble_eq_true rfl⟩ (COt_ok (alshuntref01_Number k)) (anshuntref01_Number k) (fun x => Fshuntref01_Number (k + 1) x) (stshuntref01_Number k)

/-! shunt/shuntref01.Parse -/
def bshuntref01_Parse (k : Nat) (s : ByteArray) : Option (Bool × List Int × Int) :=
  if ((decide ((((ByteArray.size s) : Nat) : Int) > (1024 : Int))) = true) then
    (some (false, [], (2 : Int)))
  else
  Option.bind (Fshuntref01_Number k s) fun r2 =>
  if ((!r2.2.2) = true) then
    (some (false, [], (3 : Int)))
  else
  Option.bind (Fshuntref01_told k r2.1 r2.2.1) fun r3 =>
  (some (r3.1, r3.2.1, r3.2.2))
def Fshuntref01_Parse : Nat → ByteArray → Option (Bool × List Int × Int)
  | 0, _ => none
  | k + 1, s => bshuntref01_Parse k s
def shshuntref01_Parse : FS := { vs := [.a (.lf .str)], bs := [] }
def rsshuntref01_Parse : List FS := [{ vs := [.g [.lf .bool, .lf (.sl (.int .u32))], .a (.lf (.int .i64))], bs := [] }]
def Ishuntref01_Parse (k : Nat) : Inst := ⟨36, shshuntref01_Parse, rsshuntref01_Parse, fun x => Fshuntref01_Parse k x⟩
theorem alshuntref01_Parse (k : Nat) : AllI (call cf k) [Ishuntref01_Number k, Ishuntref01_told k] := And.intro (okshuntref01_Number k) (And.intro (okshuntref01_told k) (True.intro))
theorem anshuntref01_Parse (k : Nat) : LAll (LOk (R := DS FS.D rsshuntref01_Parse) (fun b _ σ K => LOt Ty (kps 36) 0 b σ K []) cf (call cf k) (cf.keep 36) Try.f36.ntmps k shshuntref01_Parse.bs.length) 0 (bd Try.f36) :=
  And.intro (True.intro) (And.intro (And.intro (True.intro) (And.intro (And.intro (True.intro) (True.intro)) (True.intro))) (And.intro (True.intro) (And.intro (And.intro (True.intro) (And.intro (And.intro (True.intro) (True.intro)) (True.intro))) (And.intro (True.intro) (True.intro)))))
theorem stshuntref01_Parse (k : Nat) (x : shshuntref01_Parse.D) : Fshuntref01_Parse (k + 1) x = body2 cf (fun f a b K => COt f a b K [Ishuntref01_Number k, Ishuntref01_told k]) (fun b _ σ K => LOt Ty (kps 36) 0 b σ K []) 36 Try.f36.ntmps Try.f36.results.toList (bd Try.f36) (shshuntref01_Parse.enc x).1 (shshuntref01_Parse.enc x).2 (putS FS.dec rsshuntref01_Parse) := by kernel_rfl
theorem okshuntref01_Parse : ∀ k, InstOk (call cf k) (Ishuntref01_Parse k)
  | 0 => fun x y e => absurd (show (none : Option _) = some y from e) (by simp)
  | k + 1 => inst_ok (c := cf) (k := k) (f := 36) (fn := Try.f36) (body := bd Try.f36) (sh := shshuntref01_Parse) (os := rsshuntref01_Parse) rfl Try.func36 rfl ⟨rfl, Nat.le_of_ble_eq_true rfl⟩ (COt_ok (alshuntref01_Parse k)) (anshuntref01_Parse k) (fun x => Fshuntref01_Parse (k + 1) x) (stshuntref01_Parse k)

/-! shunt/shuntlaw01.LimbReads -/
def bshuntlaw01_LimbReads (k : Nat) (s : ByteArray) : Option (Bool) :=
  Option.bind (Fshuntlaw01_awake k) fun r =>
  if ((!r) = true) then
    (some false)
  else
  Option.bind (Flimb_Parse k s) fun r1 =>
  Option.bind (Fshuntref01_Parse k s) fun r2 =>
  Option.bind (Fshuntlaw01_same k r1.1 r1.2.1 r2.1 r2.2.1) fun r3 =>
  if (r3 = true) then
    (some (r1.2.2 == r2.2.2))
  else
  (some false)
def Fshuntlaw01_LimbReads : Nat → ByteArray → Option (Bool)
  | 0, _ => none
  | k + 1, s => bshuntlaw01_LimbReads k s
def shshuntlaw01_LimbReads : FS := { vs := [.a (.lf .str)], bs := [] }
def rsshuntlaw01_LimbReads : List FS := [{ vs := [.a (.lf .bool)], bs := [] }]
def Ishuntlaw01_LimbReads (k : Nat) : Inst := ⟨7, shshuntlaw01_LimbReads, rsshuntlaw01_LimbReads, fun x => Fshuntlaw01_LimbReads k x⟩
theorem alshuntlaw01_LimbReads (k : Nat) : AllI (call cf k) [Ishuntlaw01_awake k, Ilimb_Parse k, Ishuntref01_Parse k, Ishuntlaw01_same k] := And.intro (okshuntlaw01_awake k) (And.intro (oklimb_Parse k) (And.intro (okshuntref01_Parse k) (And.intro (okshuntlaw01_same k) (True.intro))))
theorem anshuntlaw01_LimbReads (k : Nat) : LAll (LOk (R := DS FS.D rsshuntlaw01_LimbReads) (fun b _ σ K => LOt Ty (kps 7) 0 b σ K []) cf (call cf k) (cf.keep 7) Try.f7.ntmps k shshuntlaw01_LimbReads.bs.length) 0 (bd Try.f7) :=
  And.intro (True.intro) (And.intro (And.intro (True.intro) (And.intro (And.intro (True.intro) (True.intro)) (True.intro))) (And.intro (True.intro) (And.intro (True.intro) (And.intro (True.intro) (True.intro)))))
theorem stshuntlaw01_LimbReads (k : Nat) (x : shshuntlaw01_LimbReads.D) : Fshuntlaw01_LimbReads (k + 1) x = body2 cf (fun f a b K => COt f a b K [Ishuntlaw01_awake k, Ilimb_Parse k, Ishuntref01_Parse k, Ishuntlaw01_same k]) (fun b _ σ K => LOt Ty (kps 7) 0 b σ K []) 7 Try.f7.ntmps Try.f7.results.toList (bd Try.f7) (shshuntlaw01_LimbReads.enc x).1 (shshuntlaw01_LimbReads.enc x).2 (putS FS.dec rsshuntlaw01_LimbReads) := by kernel_rfl
theorem okshuntlaw01_LimbReads : ∀ k, InstOk (call cf k) (Ishuntlaw01_LimbReads k)
  | 0 => fun x y e => absurd (show (none : Option _) = some y from e) (by simp)
  | k + 1 => inst_ok (c := cf) (k := k) (f := 7) (fn := Try.f7) (body := bd Try.f7) (sh := shshuntlaw01_LimbReads) (os := rsshuntlaw01_LimbReads) rfl Try.func7 rfl ⟨rfl, Nat.le_of_ble_eq_true rfl⟩ (COt_ok (alshuntlaw01_LimbReads k)) (anshuntlaw01_LimbReads k) (fun x => Fshuntlaw01_LimbReads (k + 1) x) (stshuntlaw01_LimbReads k)

/-! shunt/shuntlaw01.LimbBack -/
def bshuntlaw01_LimbBack (k : Nat) (a0 : Bool) (a1 : List Int) (s : ByteArray) : Option (Bool) :=
  Option.bind (Fshuntlaw01_awake k) fun r =>
  if ((!r) = true) then
    (some false)
  else
  Option.bind (Fshuntref01_Right k a0 a1) fun r1 =>
  if (r1 = true) then
    Option.bind (Flimb_Text k a0 a1) fun r2 =>
    Option.bind (Flimb_Parse k r2.1) fun r3 =>
    if ((r2.2 != (0 : Int)) = false) then
      if ((r3.2.2 != (0 : Int)) = false) then
        Option.bind (Fshuntlaw01_same k a0 a1 r3.1 r3.2.1) fun r4 =>
        if ((!r4) = true) then
          (some false)
        else
        Option.bind (Flimb_Parse k s) fun r5 =>
        if ((r5.2.2 != (0 : Int)) = true) then
          if (((((List.length r5.2.1) : Nat) : Int) == (0 : Int)) = true) then
            if ((!r5.1) = true) then
              if ((r5.2.2 == (2 : Int)) = false) then
                if ((r5.2.2 == (3 : Int)) = false) then
                  (some (r5.2.2 == (13 : Int)))
                else
                (some true)
              else
              (some true)
            else
            (some false)
          else
          (some false)
        else
        Option.bind (Flimb_Text k r5.1 r5.2.1) fun r6 =>
        if ((r6.2 == (0 : Int)) = true) then
          (some ((Array.toList (ByteArray.data r6.1)) == (Array.toList (ByteArray.data s))))
        else
        (some false)
      else
      (some false)
    else
    (some false)
  else
  Option.bind (Flimb_Parse k s) fun r2 =>
  if ((r2.2.2 != (0 : Int)) = true) then
    if (((((List.length r2.2.1) : Nat) : Int) == (0 : Int)) = true) then
      if ((!r2.1) = true) then
        if ((r2.2.2 == (2 : Int)) = false) then
          if ((r2.2.2 == (3 : Int)) = false) then
            (some (r2.2.2 == (13 : Int)))
          else
          (some true)
        else
        (some true)
      else
      (some false)
    else
    (some false)
  else
  Option.bind (Flimb_Text k r2.1 r2.2.1) fun r3 =>
  if ((r3.2 == (0 : Int)) = true) then
    (some ((Array.toList (ByteArray.data r3.1)) == (Array.toList (ByteArray.data s))))
  else
  (some false)
def Fshuntlaw01_LimbBack : Nat → Bool → List Int → ByteArray → Option (Bool)
  | 0, _, _, _ => none
  | k + 1, a0, a1, s => bshuntlaw01_LimbBack k a0 a1 s
def shshuntlaw01_LimbBack : FS := { vs := [.g [.lf .bool, .lf (.sl (.int .u32))], .a (.lf .str)], bs := [] }
def rsshuntlaw01_LimbBack : List FS := [{ vs := [.a (.lf .bool)], bs := [] }]
def Ishuntlaw01_LimbBack (k : Nat) : Inst := ⟨8, shshuntlaw01_LimbBack, rsshuntlaw01_LimbBack, fun x => Fshuntlaw01_LimbBack k x.1 x.2.1 x.2.2⟩
theorem alshuntlaw01_LimbBack (k : Nat) : AllI (call cf k) [Ishuntlaw01_awake k, Ishuntref01_Right k, Ilimb_Text k, Ilimb_Parse k, Ishuntlaw01_same k] := And.intro (okshuntlaw01_awake k) (And.intro (okshuntref01_Right k) (And.intro (oklimb_Text k) (And.intro (oklimb_Parse k) (And.intro (okshuntlaw01_same k) (True.intro)))))
theorem anshuntlaw01_LimbBack (k : Nat) : LAll (LOk (R := DS FS.D rsshuntlaw01_LimbBack) (fun b _ σ K => LOt Ty (kps 8) 0 b σ K []) cf (call cf k) (cf.keep 8) Try.f8.ntmps k shshuntlaw01_LimbBack.bs.length) 0 (bd Try.f8) :=
  And.intro (True.intro) (And.intro (And.intro (True.intro) (And.intro (And.intro (True.intro) (True.intro)) (True.intro))) (And.intro (And.intro (True.intro) (And.intro (And.intro (True.intro) (And.intro (True.intro) (And.intro (True.intro) (And.intro (And.intro (True.intro) (True.intro)) (True.intro))))) (True.intro))) (And.intro (True.intro) (And.intro (And.intro (True.intro) (And.intro (And.intro (True.intro) (True.intro)) (True.intro))) (And.intro (True.intro) (And.intro (True.intro) (True.intro)))))))
theorem stshuntlaw01_LimbBack (k : Nat) (x : shshuntlaw01_LimbBack.D) : Fshuntlaw01_LimbBack (k + 1) x.1 x.2.1 x.2.2 = body2 cf (fun f a b K => COt f a b K [Ishuntlaw01_awake k, Ishuntref01_Right k, Ilimb_Text k, Ilimb_Parse k, Ishuntlaw01_same k]) (fun b _ σ K => LOt Ty (kps 8) 0 b σ K []) 8 Try.f8.ntmps Try.f8.results.toList (bd Try.f8) (shshuntlaw01_LimbBack.enc x).1 (shshuntlaw01_LimbBack.enc x).2 (putS FS.dec rsshuntlaw01_LimbBack) := by kernel_rfl
theorem okshuntlaw01_LimbBack : ∀ k, InstOk (call cf k) (Ishuntlaw01_LimbBack k)
  | 0 => fun x y e => absurd (show (none : Option _) = some y from e) (by simp)
  | k + 1 => inst_ok (c := cf) (k := k) (f := 8) (fn := Try.f8) (body := bd Try.f8) (sh := shshuntlaw01_LimbBack) (os := rsshuntlaw01_LimbBack) rfl Try.func8 rfl ⟨rfl, Nat.le_of_ble_eq_true rfl⟩ (COt_ok (alshuntlaw01_LimbBack k)) (anshuntlaw01_LimbBack k) (fun x => Fshuntlaw01_LimbBack (k + 1) x.1 x.2.1 x.2.2) (stshuntlaw01_LimbBack k)

/-! shunt/shuntref01.Cmp -/
def bshuntref01_Cmp (k : Nat) (a0 : Bool) (a1 : List Int) (b0 : Bool) (b1 : List Int) : Option (Int × Int) :=
  Option.bind (Fshuntref01_Right k a0 a1) fun r12 =>
  if ((!r12) = false) then
    Option.bind (Fshuntref01_Right k b0 b1) fun r13 =>
    if ((!r13) = true) then
      (some ((0 : Int), (10 : Int)))
    else
    Option.bind (Fshuntref01_Take k a0 a1) fun r14 =>
    Option.bind (Fshuntref01_Take k b0 b1) fun r15 =>
    Option.bind (Fshuntref01_Held k r14.1 r14.2 r15.1 r15.2) fun r16 =>
    (some (r16, (0 : Int)))
  else
  (some ((0 : Int), (10 : Int)))
def Fshuntref01_Cmp : Nat → Bool → List Int → Bool → List Int → Option (Int × Int)
  | 0, _, _, _, _ => none
  | k + 1, a0, a1, b0, b1 => bshuntref01_Cmp k a0 a1 b0 b1
def shshuntref01_Cmp : FS := { vs := [.g [.lf .bool, .lf (.sl (.int .u32))], .g [.lf .bool, .lf (.sl (.int .u32))]], bs := [] }
def rsshuntref01_Cmp : List FS := [{ vs := [.a (.lf (.int .i64)), .a (.lf (.int .i64))], bs := [] }]
def Ishuntref01_Cmp (k : Nat) : Inst := ⟨37, shshuntref01_Cmp, rsshuntref01_Cmp, fun x => Fshuntref01_Cmp k x.1 x.2.1 x.2.2.1 x.2.2.2⟩
theorem alshuntref01_Cmp (k : Nat) : AllI (call cf k) [Ishuntref01_Right k, Ishuntref01_Take k, Ishuntref01_Held k] := And.intro (okshuntref01_Right k) (And.intro (okshuntref01_Take k) (And.intro (okshuntref01_Held k) (True.intro)))
theorem anshuntref01_Cmp (k : Nat) : LAll (LOk (R := DS FS.D rsshuntref01_Cmp) (fun b _ σ K => LOt Ty (kps 37) 0 b σ K []) cf (call cf k) (cf.keep 37) Try.f37.ntmps k shshuntref01_Cmp.bs.length) 0 (bd Try.f37) :=
  And.intro (True.intro) (And.intro (And.intro (True.intro) (And.intro (And.intro (True.intro) (True.intro)) (True.intro))) (And.intro (True.intro) (True.intro)))
theorem stshuntref01_Cmp (k : Nat) (x : shshuntref01_Cmp.D) : Fshuntref01_Cmp (k + 1) x.1 x.2.1 x.2.2.1 x.2.2.2 = body2 cf (fun f a b K => COt f a b K [Ishuntref01_Right k, Ishuntref01_Take k, Ishuntref01_Held k]) (fun b _ σ K => LOt Ty (kps 37) 0 b σ K []) 37 Try.f37.ntmps Try.f37.results.toList (bd Try.f37) (shshuntref01_Cmp.enc x).1 (shshuntref01_Cmp.enc x).2 (putS FS.dec rsshuntref01_Cmp) := by kernel_rfl
theorem okshuntref01_Cmp : ∀ k, InstOk (call cf k) (Ishuntref01_Cmp k)
  | 0 => fun x y e => absurd (show (none : Option _) = some y from e) (by simp)
  | k + 1 => inst_ok (c := cf) (k := k) (f := 37) (fn := Try.f37) (body := bd Try.f37) (sh := shshuntref01_Cmp) (os := rsshuntref01_Cmp) rfl Try.func37 rfl ⟨rfl, Nat.le_of_ble_eq_true rfl⟩ (COt_ok (alshuntref01_Cmp k)) (anshuntref01_Cmp k) (fun x => Fshuntref01_Cmp (k + 1) x.1 x.2.1 x.2.2.1 x.2.2.2) (stshuntref01_Cmp k)

/-! shunt/shuntlaw01.LimbSums -/
def Lshuntlaw01_LimbSums_0s (k : Nat) (rec : Int → Int → Bool → List Int → Bool → List Int → Bool → Nat → Bool → Nat → Bool → Nat → Bool → List Int → Bool → Nat → List Int → List Int → List Int → List Int → Option (Bool × List Int × Bool × List Int × Bool × Nat × Bool × Nat × Bool × Nat × Bool × List Int × Bool × Nat × List Int × List Int × List Int × List Int)) (x : Int) (x1 : Int) (a0 : Bool) (a1 : List Int) (b0 : Bool) (b1 : List Int) (x0 : Bool) (x11 : Nat) (y0 : Bool) (y1 : Nat) (s0 : Bool) (s1 : Nat) (s20 : Bool) (s21 : List Int) (t0 : Bool) (t1 : Nat) (m : List Int) (m1 : List Int) (m2 : List Int) (m3 : List Int) : Option (Bool × List Int × Bool × List Int × Bool × Nat × Bool × Nat × Bool × Nat × Bool × List Int × Bool × Nat × List Int × List Int × List Int × List Int) :=
  if ((decide (x1 < x)) = true) then
    if (((0 : Int) ≤ x1) ∧ (x1 < ((s1 : Nat) : Int))) then
      Option.bind (m2)[(0 + (Int.toNat x1))]? fun x2 =>
      rec x (IntKind.wrap .i64 (x1 + (1 : Int))) a0 a1 b0 b1 x0 x11 y0 y1 s0 s1 s20 s21 t0 t1 m m1 (List.set m2 (0 + (Int.toNat x1)) (7 : Int)) m3
    else
    none
  else
  (some (a0, a1, b0, b1, x0, x11, y0, y1, s0, s1, s20, s21, t0, t1, m, m1, m2, m3))
def Lshuntlaw01_LimbSums_0 (k n : Nat) : Int → Int → Bool → List Int → Bool → List Int → Bool → Nat → Bool → Nat → Bool → Nat → Bool → List Int → Bool → Nat → List Int → List Int → List Int → List Int → Option (Bool × List Int × Bool × List Int × Bool × Nat × Bool × Nat × Bool × Nat × Bool × List Int × Bool × Nat × List Int × List Int × List Int × List Int) := Nat.rec (fun _ _ _ _ _ _ _ _ _ _ _ _ _ _ _ _ _ _ _ _ => none) (fun _ r => Lshuntlaw01_LimbSums_0s k r) n
def bshuntlaw01_LimbSums (k : Nat) (a0 : Bool) (a1 : List Int) (b0 : Bool) (b1 : List Int) : Option (Bool) :=
  Option.bind (Fshuntlaw01_awake k) fun r =>
  if ((!r) = true) then
    (some false)
  else
  Option.bind (Fshuntlaw01_long k a0 a1) fun r1 =>
  if (r1 = false) then
    Option.bind (Fshuntlaw01_long k b0 b1) fun r2 =>
    if (r2 = true) then
      (some true)
    else
    Option.bind (Fshuntlaw01_lent k a0 a1) fun r3 =>
    Option.bind (Fshuntlaw01_lent k b0 b1) fun r4 =>
    if ((0 + r3.2.1) ≤ (List.length r3.2.2)) then
      if ((0 + r4.2.1) ≤ (List.length r4.2.2)) then
        Option.bind (Flimb_Add k r3.1 (List.take r3.2.1 r3.2.2) r4.1 (List.take r4.2.1 r4.2.2)) fun r5 =>
        if ((0 + r3.2.1) ≤ (List.length r3.2.2)) then
          if ((0 + r4.2.1) ≤ (List.length r4.2.2)) then
            Option.bind (Flimb_Sub k r3.1 (List.take r3.2.1 r3.2.2) r4.1 (List.take r4.2.1 r4.2.2)) fun r6 =>
            if ((0 + r3.2.1) ≤ (List.length r3.2.2)) then
              if ((0 + r4.2.1) ≤ (List.length r4.2.2)) then
                Option.bind (Flimb_Mul k r3.1 (List.take r3.2.1 r3.2.2) r4.1 (List.take r4.2.1 r4.2.2)) fun r7 =>
                if ((0 + r3.2.1) ≤ (List.length r3.2.2)) then
                  if ((0 + r4.2.1) ≤ (List.length r4.2.2)) then
                    Option.bind (Flimb_Cmp k r3.1 (List.take r3.2.1 r3.2.2) r4.1 (List.take r4.2.1 r4.2.2)) fun r8 =>
                    Option.bind (Fshuntref01_Two k (43 : Int) a0 a1 b0 b1) fun r9 =>
                    Option.bind (Fshuntref01_Two k (45 : Int) a0 a1 b0 b1) fun r10 =>
                    Option.bind (Fshuntref01_Two k (42 : Int) a0 a1 b0 b1) fun r11 =>
                    Option.bind (Fshuntref01_Cmp k a0 a1 b0 b1) fun r12 =>
                    if ((0 + r5.2.1) ≤ (List.length r5.2.2.2)) then
                      Option.bind (Fshuntlaw01_same k r5.1 (List.take r5.2.1 r5.2.2.2) r9.1 r9.2.1) fun r13 =>
                      if ((!r13) = false) then
                        Option.bind (Fshuntlaw01_same k r6.1 r6.2.1 r10.1 r10.2.1) fun r14 =>
                        if ((!r14) = false) then
                          Option.bind (Fshuntlaw01_same k r7.1 r7.2.1 r11.1 r11.2.1) fun r15 =>
                          if ((!r15) = false) then
                            if ((r8.1 != r12.1) = false) then
                              if ((r5.2.2.1 != r9.2.2) = false) then
                                if ((r6.2.2 != r10.2.2) = false) then
                                  if ((r7.2.2 != r11.2.2) = false) then
                                    if ((r8.2 != r12.2) = false) then
                                      Option.bind (Fshuntlaw01_whole_aoq k r3.1 r3.2.1 a0 a1 r3.2.2) fun r16 =>
                                      if ((!r16.1) = false) then
                                        Option.bind (Fshuntlaw01_whole_aoq k r4.1 r4.2.1 b0 b1 r4.2.2) fun r17 =>
                                        if ((!r17.1) = true) then
                                          (some false)
                                        else
                                        if ((0 + r3.2.1) ≤ (List.length r16.2)) then
                                          if ((0 + r4.2.1) ≤ (List.length r17.2)) then
                                            Option.bind (Flimb_Add k r3.1 (List.take r3.2.1 r16.2) r4.1 (List.take r4.2.1 r17.2)) fun r18 =>
                                            Option.bind (Lshuntlaw01_LimbSums_0 k k ((r5.2.1 : Nat) : Int) (0 : Int) a0 a1 b0 b1 r3.1 r3.2.1 r4.1 r4.2.1 r5.1 r5.2.1 r9.1 r9.2.1 r18.1 r18.2.1 r16.2 r17.2 r5.2.2.2 r18.2.2.2) fun r19 =>
                                            if ((0 + r19.2.2.2.2.2.2.2.2.2.2.2.2.2.1) ≤ (List.length r19.2.2.2.2.2.2.2.2.2.2.2.2.2.2.2.2.2)) then
                                              Option.bind (Fshuntlaw01_same k r19.2.2.2.2.2.2.2.2.2.2.2.2.1 (List.take r19.2.2.2.2.2.2.2.2.2.2.2.2.2.1 r19.2.2.2.2.2.2.2.2.2.2.2.2.2.2.2.2.2) r19.2.2.2.2.2.2.2.2.2.2.1 r19.2.2.2.2.2.2.2.2.2.2.2.1) fun r20 =>
                                              if (r20 = true) then
                                                Option.bind (Fshuntlaw01_whole_aoq k r19.2.2.2.2.1 r19.2.2.2.2.2.1 r19.1 r19.2.1 r19.2.2.2.2.2.2.2.2.2.2.2.2.2.2.1) fun r21 =>
                                                if (r21.1 = true) then
                                                  Option.bind (Fshuntlaw01_whole_aoq k r19.2.2.2.2.2.2.1 r19.2.2.2.2.2.2.2.1 r19.2.2.1 r19.2.2.2.1 r19.2.2.2.2.2.2.2.2.2.2.2.2.2.2.2.1) fun r22 =>
                                                  (some r22.1)
                                                else
                                                (some false)
                                              else
                                              (some false)
                                            else
                                            none
                                          else
                                          none
                                        else
                                        none
                                      else
                                      (some false)
                                    else
                                    (some false)
                                  else
                                  (some false)
                                else
                                (some false)
                              else
                              (some false)
                            else
                            (some false)
                          else
                          (some false)
                        else
                        (some false)
                      else
                      (some false)
                    else
                    none
                  else
                  none
                else
                none
              else
              none
            else
            none
          else
          none
        else
        none
      else
      none
    else
    none
  else
  (some true)
def Fshuntlaw01_LimbSums : Nat → Bool → List Int → Bool → List Int → Option (Bool)
  | 0, _, _, _, _ => none
  | k + 1, a0, a1, b0, b1 => bshuntlaw01_LimbSums k a0 a1 b0 b1
def shshuntlaw01_LimbSums : FS := { vs := [.g [.lf .bool, .lf (.sl (.int .u32))], .g [.lf .bool, .lf (.sl (.int .u32))]], bs := [] }
def rsshuntlaw01_LimbSums : List FS := [{ vs := [.a (.lf .bool)], bs := [] }]
def Ishuntlaw01_LimbSums (k : Nat) : Inst := ⟨9, shshuntlaw01_LimbSums, rsshuntlaw01_LimbSums, fun x => Fshuntlaw01_LimbSums k x.1 x.2.1 x.2.2.1 x.2.2.2⟩
theorem alshuntlaw01_LimbSums (k : Nat) : AllI (call cf k) [Ishuntlaw01_awake k, Ishuntlaw01_long k, Ishuntlaw01_lent k, Ilimb_Add k, Ilimb_Sub k, Ilimb_Mul k, Ilimb_Cmp k, Ishuntref01_Two k, Ishuntref01_Cmp k, Ishuntlaw01_same k, Ishuntlaw01_whole_aoq k] := And.intro (okshuntlaw01_awake k) (And.intro (okshuntlaw01_long k) (And.intro (okshuntlaw01_lent k) (And.intro (oklimb_Add k) (And.intro (oklimb_Sub k) (And.intro (oklimb_Mul k) (And.intro (oklimb_Cmp k) (And.intro (okshuntref01_Two k) (And.intro (okshuntref01_Cmp k) (And.intro (okshuntlaw01_same k) (And.intro (okshuntlaw01_whole_aoq k) (True.intro)))))))))))
def hsshuntlaw01_LimbSums_0 : List SS := [{ fr := [(2, .a (.ptr 0 0 0)), (3, .a (.ptr 1 0 0)), (5, .a (.ptr 2 0 0)), (6, .a (.ptr 3 0 0)), (7, .a (.ptr 4 0 0)), (15, .a (.ptr 5 0 0)), (23, .a (.ptr 6 0 0)), (147, .a (.lf (.int .i64))), (148, .a (.lf (.int .i64)))], mem := [(0, some (.raw [[.lf .bool, .lf (.sl (.int .u32))]] 2 24 true false)), (1, some (.raw [[.lf .bool, .lf (.sl (.int .u32))]] 2 24 true false)), (2, some (.raw [[.lf .bool, .smz 7]] 2 24 false false)), (3, some (.raw [[.lf .bool, .smz 8]] 2 24 false false)), (4, some (.raw [[.lf .bool, .smz 9]] 2 24 false false)), (5, some (.raw [[.lf .bool, .lf (.sl (.int .u32))]] 2 24 true false)), (6, some (.raw [[.lf .bool, .smz 10]] 2 24 false false)), (7, some (.arr (.int .u32) 1 64 true)), (8, some (.arr (.int .u32) 1 64 true)), (9, some (.arr (.int .u32) 1 64 false)), (10, some (.arr (.int .u32) 1 64 false))], nx := 11 }]
def osshuntlaw01_LimbSums_0 : List OS := [⟨some 0, { fr := [(2, .a (.ptr 0 0 0)), (3, .a (.ptr 1 0 0)), (5, .a (.ptr 2 0 0)), (6, .a (.ptr 3 0 0)), (15, .a (.ptr 5 0 0)), (23, .a (.ptr 6 0 0))], mem := [(0, some (.raw [[.lf .bool, .lf (.sl (.int .u32))]] 2 24 true false)), (1, some (.raw [[.lf .bool, .lf (.sl (.int .u32))]] 2 24 true false)), (2, some (.raw [[.lf .bool, .smz 7]] 2 24 false false)), (3, some (.raw [[.lf .bool, .smz 8]] 2 24 false false)), (4, some (.raw [[.lf .bool, .smz 9]] 2 24 false false)), (5, some (.raw [[.lf .bool, .lf (.sl (.int .u32))]] 2 24 true false)), (6, some (.raw [[.lf .bool, .smz 10]] 2 24 false false)), (7, some (.arr (.int .u32) 1 64 true)), (8, some (.arr (.int .u32) 1 64 true)), (9, some (.arr (.int .u32) 1 64 false)), (10, some (.arr (.int .u32) 1 64 false))], nx := 11 }⟩]
def LIshuntlaw01_LimbSums_0 (k : Nat) : LInst := ⟨0, hsshuntlaw01_LimbSums_0, osshuntlaw01_LimbSums_0, fun x => Lshuntlaw01_LimbSums_0 k k x.1 x.2.1 x.2.2.1 x.2.2.2.1 x.2.2.2.2.1 x.2.2.2.2.2.1 x.2.2.2.2.2.2.1 x.2.2.2.2.2.2.2.1 x.2.2.2.2.2.2.2.2.1 x.2.2.2.2.2.2.2.2.2.1 x.2.2.2.2.2.2.2.2.2.2.1 x.2.2.2.2.2.2.2.2.2.2.2.1 x.2.2.2.2.2.2.2.2.2.2.2.2.1 x.2.2.2.2.2.2.2.2.2.2.2.2.2.1 x.2.2.2.2.2.2.2.2.2.2.2.2.2.2.1 x.2.2.2.2.2.2.2.2.2.2.2.2.2.2.2.1 x.2.2.2.2.2.2.2.2.2.2.2.2.2.2.2.2.1 x.2.2.2.2.2.2.2.2.2.2.2.2.2.2.2.2.2.1 x.2.2.2.2.2.2.2.2.2.2.2.2.2.2.2.2.2.2.1 x.2.2.2.2.2.2.2.2.2.2.2.2.2.2.2.2.2.2.2⟩
theorem anshuntlaw01_LimbSums_0 (k : Nat) : LAll (LOk (R := DS OS.D osshuntlaw01_LimbSums_0) (fun b _ σ K => LOt Ty (kps 9) 0 b σ K []) cf (call cf k) (kps 9) Try.f9.ntmps k 0) 0 (lb Try.f9 0) :=
  And.intro (True.intro) (And.intro (And.intro (True.intro) (True.intro)) (And.intro (And.intro (True.intro) (True.intro)) (True.intro)))
theorem stshuntlaw01_LimbSums_0 (k n : Nat) (x : DS SS.D hsshuntlaw01_LimbSums_0) : Lshuntlaw01_LimbSums_0 k (n + 1) x.1 x.2.1 x.2.2.1 x.2.2.2.1 x.2.2.2.2.1 x.2.2.2.2.2.1 x.2.2.2.2.2.2.1 x.2.2.2.2.2.2.2.1 x.2.2.2.2.2.2.2.2.1 x.2.2.2.2.2.2.2.2.2.1 x.2.2.2.2.2.2.2.2.2.2.1 x.2.2.2.2.2.2.2.2.2.2.2.1 x.2.2.2.2.2.2.2.2.2.2.2.2.1 x.2.2.2.2.2.2.2.2.2.2.2.2.2.1 x.2.2.2.2.2.2.2.2.2.2.2.2.2.2.1 x.2.2.2.2.2.2.2.2.2.2.2.2.2.2.2.1 x.2.2.2.2.2.2.2.2.2.2.2.2.2.2.2.2.1 x.2.2.2.2.2.2.2.2.2.2.2.2.2.2.2.2.2.1 x.2.2.2.2.2.2.2.2.2.2.2.2.2.2.2.2.2.2.1 x.2.2.2.2.2.2.2.2.2.2.2.2.2.2.2.2.2.2.2 = encSK SS.enc (fun σ => run2 cf (fun f a b K => COt f a b K [Ishuntlaw01_awake k, Ishuntlaw01_long k, Ishuntlaw01_lent k, Ilimb_Add k, Ilimb_Sub k, Ilimb_Mul k, Ilimb_Cmp k, Ishuntref01_Two k, Ishuntref01_Cmp k, Ishuntlaw01_same k, Ishuntlaw01_whole_aoq k]) (fun b _ σ K => LOt Ty (kps 9) 0 b σ K []) Try.f9.ntmps 0 (lb Try.f9 0) σ (nextK Ty (kps 9 0) 0 hsshuntlaw01_LimbSums_0 osshuntlaw01_LimbSums_0 fun x => Lshuntlaw01_LimbSums_0 k n x.1 x.2.1 x.2.2.1 x.2.2.2.1 x.2.2.2.2.1 x.2.2.2.2.2.1 x.2.2.2.2.2.2.1 x.2.2.2.2.2.2.2.1 x.2.2.2.2.2.2.2.2.1 x.2.2.2.2.2.2.2.2.2.1 x.2.2.2.2.2.2.2.2.2.2.1 x.2.2.2.2.2.2.2.2.2.2.2.1 x.2.2.2.2.2.2.2.2.2.2.2.2.1 x.2.2.2.2.2.2.2.2.2.2.2.2.2.1 x.2.2.2.2.2.2.2.2.2.2.2.2.2.2.1 x.2.2.2.2.2.2.2.2.2.2.2.2.2.2.2.1 x.2.2.2.2.2.2.2.2.2.2.2.2.2.2.2.2.1 x.2.2.2.2.2.2.2.2.2.2.2.2.2.2.2.2.2.1 x.2.2.2.2.2.2.2.2.2.2.2.2.2.2.2.2.2.2.1 x.2.2.2.2.2.2.2.2.2.2.2.2.2.2.2.2.2.2.2)) hsshuntlaw01_LimbSums_0 x := by kernel_rfl
theorem loshuntlaw01_LimbSums_0 (k : Nat) : LIOk cf (call cf k) (kps 9) Try.f9.ntmps k 0 0 (lb Try.f9 0) (LIshuntlaw01_LimbSums_0 k) :=
  loop_ok (c := cf) (callF := call cf k) (kp := kps 9) (nt := Try.f9.ntmps) (k := k) (p := 0) (b := 0) (x0 := lb Try.f9 0) (hs := hsshuntlaw01_LimbSums_0) (os := osshuntlaw01_LimbSums_0) (COt_ok (alshuntlaw01_LimbSums k)) (anshuntlaw01_LimbSums_0 k) (fun n x => Lshuntlaw01_LimbSums_0 k n x.1 x.2.1 x.2.2.1 x.2.2.2.1 x.2.2.2.2.1 x.2.2.2.2.2.1 x.2.2.2.2.2.2.1 x.2.2.2.2.2.2.2.1 x.2.2.2.2.2.2.2.2.1 x.2.2.2.2.2.2.2.2.2.1 x.2.2.2.2.2.2.2.2.2.2.1 x.2.2.2.2.2.2.2.2.2.2.2.1 x.2.2.2.2.2.2.2.2.2.2.2.2.1 x.2.2.2.2.2.2.2.2.2.2.2.2.2.1 x.2.2.2.2.2.2.2.2.2.2.2.2.2.2.1 x.2.2.2.2.2.2.2.2.2.2.2.2.2.2.2.1 x.2.2.2.2.2.2.2.2.2.2.2.2.2.2.2.2.1 x.2.2.2.2.2.2.2.2.2.2.2.2.2.2.2.2.2.1 x.2.2.2.2.2.2.2.2.2.2.2.2.2.2.2.2.2.2.1 x.2.2.2.2.2.2.2.2.2.2.2.2.2.2.2.2.2.2.2) (fun _ => rfl) (stshuntlaw01_LimbSums_0 k)
theorem anshuntlaw01_LimbSums (k : Nat) : LAll (LOk (R := DS FS.D rsshuntlaw01_LimbSums) (fun b _ σ K => LOt Ty (kps 9) 0 b σ K [LIshuntlaw01_LimbSums_0 k]) cf (call cf k) (cf.keep 9) Try.f9.ntmps k shshuntlaw01_LimbSums.bs.length) 0 (bd Try.f9) :=
  And.intro (True.intro) (And.intro (And.intro (True.intro) (And.intro (And.intro (True.intro) (True.intro)) (True.intro))) (And.intro (And.intro (True.intro) (And.intro (And.intro (True.intro) (True.intro)) (True.intro))) (And.intro (True.intro) (And.intro (True.intro) (And.intro (True.intro) (And.intro (True.intro) (And.intro (True.intro) (And.intro (True.intro) (And.intro (True.intro) (And.intro (True.intro) (And.intro (True.intro) (And.intro (And.intro (True.intro) (And.intro (And.intro (True.intro) (True.intro)) (True.intro))) (And.intro (True.intro) (And.intro (And.intro (True.intro) (LOt_ok (c := cf) (callF := call cf k) (kp := kps 9) (nt := Try.f9.ntmps) (k := k) (p := 0) (b := 0) (x0 := lb Try.f9 0) (l := [LIshuntlaw01_LimbSums_0 k]) (And.intro (fun _ => loshuntlaw01_LimbSums_0 k) (True.intro)))) (And.intro (True.intro) (True.intro))))))))))))))))
theorem stshuntlaw01_LimbSums (k : Nat) (x : shshuntlaw01_LimbSums.D) : Fshuntlaw01_LimbSums (k + 1) x.1 x.2.1 x.2.2.1 x.2.2.2 = body2 cf (fun f a b K => COt f a b K [Ishuntlaw01_awake k, Ishuntlaw01_long k, Ishuntlaw01_lent k, Ilimb_Add k, Ilimb_Sub k, Ilimb_Mul k, Ilimb_Cmp k, Ishuntref01_Two k, Ishuntref01_Cmp k, Ishuntlaw01_same k, Ishuntlaw01_whole_aoq k]) (fun b _ σ K => LOt Ty (kps 9) 0 b σ K [LIshuntlaw01_LimbSums_0 k]) 9 Try.f9.ntmps Try.f9.results.toList (bd Try.f9) (shshuntlaw01_LimbSums.enc x).1 (shshuntlaw01_LimbSums.enc x).2 (putS FS.dec rsshuntlaw01_LimbSums) := by kernel_rfl
theorem okshuntlaw01_LimbSums : ∀ k, InstOk (call cf k) (Ishuntlaw01_LimbSums k)
  | 0 => fun x y e => absurd (show (none : Option _) = some y from e) (by simp)
  | k + 1 => inst_ok (c := cf) (k := k) (f := 9) (fn := Try.f9) (body := bd Try.f9) (sh := shshuntlaw01_LimbSums) (os := rsshuntlaw01_LimbSums) rfl Try.func9 rfl ⟨rfl, Nat.le_of_ble_eq_true rfl⟩ (COt_ok (alshuntlaw01_LimbSums k)) (anshuntlaw01_LimbSums k) (fun x => Fshuntlaw01_LimbSums (k + 1) x.1 x.2.1 x.2.2.1 x.2.2.2) (stshuntlaw01_LimbSums k)

/-! shunt/shuntlaw01.LimbDivides -/
def bshuntlaw01_LimbDivides (k : Nat) (a0 : Bool) (a1 : List Int) (b0 : Bool) (b1 : List Int) : Option (Bool) :=
  Option.bind (Fshuntlaw01_awake k) fun r =>
  if ((!r) = true) then
    (some false)
  else
  Option.bind (Fshuntref01_Right k a0 a1) fun r1 =>
  if ((!r1) = false) then
    Option.bind (Fshuntref01_Right k b0 b1) fun r2 =>
    if ((!r2) = false) then
      if (((((List.length b1) : Nat) : Int) == (0 : Int)) = false) then
        if ((decide ((IntKind.wrap .i64 ((((List.length a1) : Nat) : Int) + (((List.length b1) : Nat) : Int))) > (60 : Int))) = true) then
          (some true)
        else
        Option.bind (Flimb_QuoRem k a0 a1 b0 b1) fun r3 =>
        Option.bind (Flimb_Mul k r3.1 r3.2.1 b0 b1) fun r4 =>
        Option.bind (Flimb_Add k r4.1 r4.2.1 r3.2.2.1 r3.2.2.2.1) fun r5 =>
        if ((r3.2.2.2.2 != (0 : Int)) = false) then
          if ((r4.2.2 != (0 : Int)) = false) then
            if ((r5.2.2.1 != (0 : Int)) = false) then
              if ((0 + r5.2.1) ≤ (List.length r5.2.2.2)) then
                Option.bind (Fshuntlaw01_same k r5.1 (List.take r5.2.1 r5.2.2.2) a0 a1) fun r6 =>
                if ((!r6) = false) then
                  if ((decide ((((List.length r3.2.2.2.1) : Nat) : Int) > (0 : Int))) = true) then
                    if ((!(r3.2.2.1 == a0)) = true) then
                      (some false)
                    else
                    Option.bind (Flimb_Cmp k false r3.2.2.2.1 false b1) fun r7 =>
                    if ((r7.2 != (0 : Int)) = false) then
                      if ((decide (r7.1 ≥ (0 : Int))) = true) then
                        (some false)
                      else
                      Option.bind (Flimb_Mul k a0 a1 b0 b1) fun r8 =>
                      Option.bind (Flimb_Exact k r8.1 r8.2.1 b0 b1) fun r9 =>
                      if ((r8.2.2 != (0 : Int)) = false) then
                        if ((r9.2.2 != (0 : Int)) = false) then
                          Option.bind (Fshuntlaw01_same k r9.1 r9.2.1 a0 a1) fun r10 =>
                          if ((!r10) = true) then
                            (some false)
                          else
                          Option.bind (Flimb_Gcd k a0 a1 b0 b1) fun r11 =>
                          Option.bind (Flimb_Exact k a0 a1 r11.1 r11.2.1) fun r12 =>
                          Option.bind (Flimb_Exact k b0 b1 r11.1 r11.2.1) fun r13 =>
                          Option.bind (Flimb_Gcd k r12.1 r12.2.1 r13.1 r13.2.1) fun r14 =>
                          if ((r11.2.2 == (0 : Int)) = true) then
                            if ((r12.2.2 == (0 : Int)) = true) then
                              if ((r13.2.2 == (0 : Int)) = true) then
                                if ((r14.2.2 == (0 : Int)) = true) then
                                  if ((!r11.1) = true) then
                                    Option.bind (Flimb_Of k (1 : Int)) fun r15 =>
                                    Option.bind (Fshuntlaw01_same k r14.1 r14.2.1 r15.1 r15.2) fun r16 =>
                                    (some r16)
                                  else
                                  (some false)
                                else
                                (some false)
                              else
                              (some false)
                            else
                            (some false)
                          else
                          (some false)
                        else
                        (some false)
                      else
                      (some false)
                    else
                    (some false)
                  else
                  Option.bind (Flimb_Cmp k false r3.2.2.2.1 false b1) fun r7 =>
                  if ((r7.2 != (0 : Int)) = false) then
                    if ((decide (r7.1 ≥ (0 : Int))) = true) then
                      (some false)
                    else
                    Option.bind (Flimb_Mul k a0 a1 b0 b1) fun r8 =>
                    Option.bind (Flimb_Exact k r8.1 r8.2.1 b0 b1) fun r9 =>
                    if ((r8.2.2 != (0 : Int)) = false) then
                      if ((r9.2.2 != (0 : Int)) = false) then
                        Option.bind (Fshuntlaw01_same k r9.1 r9.2.1 a0 a1) fun r10 =>
                        if ((!r10) = true) then
                          (some false)
                        else
                        Option.bind (Flimb_Gcd k a0 a1 b0 b1) fun r11 =>
                        Option.bind (Flimb_Exact k a0 a1 r11.1 r11.2.1) fun r12 =>
                        Option.bind (Flimb_Exact k b0 b1 r11.1 r11.2.1) fun r13 =>
                        Option.bind (Flimb_Gcd k r12.1 r12.2.1 r13.1 r13.2.1) fun r14 =>
                        if ((r11.2.2 == (0 : Int)) = true) then
                          if ((r12.2.2 == (0 : Int)) = true) then
                            if ((r13.2.2 == (0 : Int)) = true) then
                              if ((r14.2.2 == (0 : Int)) = true) then
                                if ((!r11.1) = true) then
                                  Option.bind (Flimb_Of k (1 : Int)) fun r15 =>
                                  Option.bind (Fshuntlaw01_same k r14.1 r14.2.1 r15.1 r15.2) fun r16 =>
                                  (some r16)
                                else
                                (some false)
                              else
                              (some false)
                            else
                            (some false)
                          else
                          (some false)
                        else
                        (some false)
                      else
                      (some false)
                    else
                    (some false)
                  else
                  (some false)
                else
                (some false)
              else
              none
            else
            (some false)
          else
          (some false)
        else
        (some false)
      else
      (some true)
    else
    (some true)
  else
  (some true)
def Fshuntlaw01_LimbDivides : Nat → Bool → List Int → Bool → List Int → Option (Bool)
  | 0, _, _, _, _ => none
  | k + 1, a0, a1, b0, b1 => bshuntlaw01_LimbDivides k a0 a1 b0 b1
def shshuntlaw01_LimbDivides : FS := { vs := [.g [.lf .bool, .lf (.sl (.int .u32))], .g [.lf .bool, .lf (.sl (.int .u32))]], bs := [] }
def rsshuntlaw01_LimbDivides : List FS := [{ vs := [.a (.lf .bool)], bs := [] }]
def Ishuntlaw01_LimbDivides (k : Nat) : Inst := ⟨10, shshuntlaw01_LimbDivides, rsshuntlaw01_LimbDivides, fun x => Fshuntlaw01_LimbDivides k x.1 x.2.1 x.2.2.1 x.2.2.2⟩
theorem alshuntlaw01_LimbDivides (k : Nat) : AllI (call cf k) [Ishuntlaw01_awake k, Ishuntref01_Right k, Ilimb_QuoRem k, Ilimb_Mul k, Ilimb_Add k, Ishuntlaw01_same k, Ilimb_Cmp k, Ilimb_Exact k, Ilimb_Gcd k, Ilimb_Of k] := And.intro (okshuntlaw01_awake k) (And.intro (okshuntref01_Right k) (And.intro (oklimb_QuoRem k) (And.intro (oklimb_Mul k) (And.intro (oklimb_Add k) (And.intro (okshuntlaw01_same k) (And.intro (oklimb_Cmp k) (And.intro (oklimb_Exact k) (And.intro (oklimb_Gcd k) (And.intro (oklimb_Of k) (True.intro))))))))))
theorem anshuntlaw01_LimbDivides (k : Nat) : LAll (LOk (R := DS FS.D rsshuntlaw01_LimbDivides) (fun b _ σ K => LOt Ty (kps 10) 0 b σ K []) cf (call cf k) (cf.keep 10) Try.f10.ntmps k shshuntlaw01_LimbDivides.bs.length) 0 (bd Try.f10) :=
  And.intro (True.intro) (And.intro (And.intro (True.intro) (And.intro (And.intro (True.intro) (True.intro)) (True.intro))) (And.intro (And.intro (True.intro) (And.intro (And.intro (True.intro) (True.intro)) (True.intro))) (And.intro (True.intro) (And.intro (True.intro) (And.intro (True.intro) (And.intro (And.intro (True.intro) (And.intro (And.intro (True.intro) (True.intro)) (True.intro))) (And.intro (True.intro) (And.intro (And.intro (True.intro) (And.intro (And.intro (True.intro) (True.intro)) (True.intro))) (And.intro (True.intro) (And.intro (True.intro) (And.intro (And.intro (True.intro) (And.intro (And.intro (True.intro) (True.intro)) (True.intro))) (And.intro (True.intro) (And.intro (True.intro) (And.intro (True.intro) (And.intro (True.intro) (And.intro (True.intro) (True.intro)))))))))))))))))
theorem stshuntlaw01_LimbDivides (k : Nat) (x : shshuntlaw01_LimbDivides.D) : Fshuntlaw01_LimbDivides (k + 1) x.1 x.2.1 x.2.2.1 x.2.2.2 = body2 cf (fun f a b K => COt f a b K [Ishuntlaw01_awake k, Ishuntref01_Right k, Ilimb_QuoRem k, Ilimb_Mul k, Ilimb_Add k, Ishuntlaw01_same k, Ilimb_Cmp k, Ilimb_Exact k, Ilimb_Gcd k, Ilimb_Of k]) (fun b _ σ K => LOt Ty (kps 10) 0 b σ K []) 10 Try.f10.ntmps Try.f10.results.toList (bd Try.f10) (shshuntlaw01_LimbDivides.enc x).1 (shshuntlaw01_LimbDivides.enc x).2 (putS FS.dec rsshuntlaw01_LimbDivides) := by kernel_rfl
theorem okshuntlaw01_LimbDivides : ∀ k, InstOk (call cf k) (Ishuntlaw01_LimbDivides k)
  | 0 => fun x y e => absurd (show (none : Option _) = some y from e) (by simp)
  | k + 1 => inst_ok (c := cf) (k := k) (f := 10) (fn := Try.f10) (body := bd Try.f10) (sh := shshuntlaw01_LimbDivides) (os := rsshuntlaw01_LimbDivides) rfl Try.func10 rfl ⟨rfl, Nat.le_of_ble_eq_true rfl⟩ (COt_ok (alshuntlaw01_LimbDivides k)) (anshuntlaw01_LimbDivides k) (fun x => Fshuntlaw01_LimbDivides (k + 1) x.1 x.2.1 x.2.2.1 x.2.2.2) (stshuntlaw01_LimbDivides k)

end
end Go.Proofs.Ytghdpmejgonjmaa.Am
