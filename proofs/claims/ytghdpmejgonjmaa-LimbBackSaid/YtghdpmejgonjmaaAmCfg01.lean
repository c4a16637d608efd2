/- The tables of this seat's program as the abstract machine reads them. -/
import Derived.Test.YtghdpmejgonjmaaAmDefs
import Derived.Test.YtghdpmejgonjmaaProg
namespace Go.Proofs.Ytghdpmejgonjmaa.Am
open Go
def Ty : TypeId → Option TI
  | 0 => some ⟨.oth, 1, 0, false, []⟩
  | 2 => some ⟨.int .i64, 1, 8, false, [.int .i64 0]⟩
  | 3 => some ⟨.int .i64, 1, 8, false, [.int .i64 0]⟩
  | 4 => some ⟨.bool, 1, 1, false, [.bool false]⟩
  | 5 => some ⟨.int .u8, 1, 1, false, [.int .u8 0]⟩
  | 9 => some ⟨.str, 1, 16, false, [.str ⟨#[]⟩]⟩
  | 22 => some ⟨.sl 64, 1, 24, false, [.snil 1 64]⟩
  | 24 => some ⟨.st [(0, 1), (1, 1)] [4, 22], 2, 32, true, [.bool false, .snil 1 64]⟩
  | 28 => some ⟨.int .i64, 1, 8, false, [.int .i64 0]⟩
  | 29 => some ⟨.oth, 1, 0, false, []⟩
  | 31 => some ⟨.oth, 1, 0, false, []⟩
  | 33 => some ⟨.oth, 1, 0, false, []⟩
  | 35 => some ⟨.oth, 1, 0, false, []⟩
  | 38 => some ⟨.oth, 1, 0, false, []⟩
  | 40 => some ⟨.oth, 1, 0, false, []⟩
  | 42 => some ⟨.oth, 1, 0, false, []⟩
  | 44 => some ⟨.oth, 1, 0, false, []⟩
  | 48 => some ⟨.sl 3, 1, 24, false, [.snil 1 3]⟩
  | 50 => some ⟨.st [(0, 1), (1, 1)] [4, 48], 2, 32, true, [.bool false, .snil 1 3]⟩
  | 56 => some ⟨.oth, 1, 0, false, []⟩
  | 62 => some ⟨.oth, 1, 0, false, []⟩
  | 64 => some ⟨.int .u32, 1, 4, false, [.int .u32 0]⟩
  | 66 => some ⟨.ptr, 1, 8, false, [.nilp]⟩
  | 67 => some ⟨.oth, 1, 0, false, []⟩
  | 69 => some ⟨.st [(0, 1), (1, 1)] [4, 22], 2, 32, true, [.bool false, .snil 1 64]⟩
  | 73 => some ⟨.oth, 1, 0, false, []⟩
  | 80 => some ⟨.oth, 1, 0, false, []⟩
  | 86 => some ⟨.int .u64, 1, 8, false, [.int .u64 0]⟩
  | 91 => some ⟨.oth, 1, 0, false, []⟩
  | 94 => some ⟨.oth, 1, 0, false, []⟩
  | 105 => some ⟨.int .u64, 1, 8, false, [.int .u64 0]⟩
  | 106 => some ⟨.sl 5, 1, 24, false, [.snil 1 5]⟩
  | 107 => some ⟨.oth, 1, 0, false, []⟩
  | _ => none
def kps : FuncId → Nat → List Kp
  | 9, 0 => [.b 2, .b 3, .b 5, .b 6, .b 7, .b 15, .b 23, .s 147, .s 148]
  | 27, 0 => [.b 1, .b 2, .b 3, .s 4]
  | 28, 0 => [.b 2, .b 3, .s 4]
  | 35, 0 => [.s 0, .b 2, .s 4, .s 35, .s 36]
  | 42, 0 => [.b 2, .b 3, .b 4, .b 5, .s 6, .s 7, .s 8]
  | 43, 0 => [.b 1, .b 2, .s 3, .s 4]
  | 47, 0 => [.b 2, .b 3, .b 4, .s 5, .s 6]
  | 47, 2 => [.b 2, .b 3, .b 4, .s 5, .s 6, .s 7, .s 8]
  | 48, 0 => [.b 2, .b 3, .b 4]
  | 50, 0 => [.s 5, .s 6]
  | 51, 0 => [.b 2, .b 3, .s 5]
  | 52, 0 => [.s 0, .s 4, .s 5]
  | 53, 0 => [.b 1, .s 4, .s 5]
  | 54, 0 => [.s 0, .s 3, .s 4]
  | 54, 2 => [.s 0, .s 3, .s 4, .s 6, .s 7]
  | 54, 4 => [.s 3, .s 8, .s 9]
  | 55, 0 => [.b 1, .s 3, .s 4]
  | 55, 2 => [.b 1, .s 3, .s 4, .s 5, .s 6]
  | 60, 0 => [.s 0, .s 1, .s 2, .s 7, .s 29, .s 30, .s 31]
  | 60, 2 => [.s 0, .s 1, .s 2, .s 7, .s 8, .s 9, .s 10, .s 29, .s 30, .s 31, .s 39, .s 40, .s 41]
  | 62, 0 => [.s 0, .s 3, .s 4, .s 9, .s 10]
  | 64, 0 => [.s 0, .b 2, .s 4, .b 6, .b 7, .s 8]
  | 71, 0 => [.s 0, .s 3]
  | 72, 0 => [.s 0, .s 1, .s 5, .s 6]
  | 73, 0 => [.s 0, .s 1, .s 5, .s 6, .s 7]
  | 74, 0 => [.s 0, .b 2, .b 3]
  | 76, 0 => [.s 0, .s 1, .s 5, .s 6, .s 7]
  | 77, 0 => [.s 0, .s 1, .s 5]
  | 80, 0 => [.s 0, .s 3]
  | 81, 0 => [.s 0, .s 1, .s 6, .s 7, .s 8]
  | 83, 0 => [.s 0, .s 1, .s 5]
  | 84, 0 => [.s 0, .s 1, .s 6]
  | 84, 2 => [.s 4, .s 6, .s 7, .s 8, .s 9, .s 10]
  | 84, 4 => [.s 4, .s 6, .s 7, .s 8, .s 9, .s 10, .s 12, .s 13]
  | 84, 6 => [.s 4, .s 5, .s 6, .s 8, .s 139, .s 140]
  | 85, 0 => [.s 0, .s 1, .s 5, .s 6, .s 21, .s 22]
  | 86, 0 => [.s 0, .s 1, .s 5, .s 6, .s 13, .s 14]
  | 87, 0 => [.s 1, .s 5, .s 13, .s 14, .s 15]
  | 88, 0 => [.s 0, .s 1, .s 2, .s 7, .s 8, .s 14, .s 15]
  | 88, 2 => [.s 0, .s 1, .s 2, .s 7, .s 61, .s 62]
  | _, _ => []
def muts : FuncId → Bool
  | 88 => true
  | 20 => true
  | 71 => true
  | _ => false
def owns : FuncId → Bool
  | 13 => true
  | 31 => true
  | 41 => true
  | 57 => true
  | 70 => true
  | 71 => true
  | 87 => true
  | _ => false
-- types: 0, 2, 3, 4, 5, 9, 22, 24, 28, 29, 31, 33, 35, 38, 40, 42, 44, 48, 50, 56, 62, 64, 66, 67, 69, 73, 80, 86, 91, 94, 105, 106, 107
-- funcs: 3 shunt/shuntlaw01.LimbParts, 4 shunt/shuntlaw01.LimbOnes, 5 shunt/shuntlaw01.LimbRing, 6 shunt/shuntlaw01.LimbOrder, 7 shunt/shuntlaw01.LimbReads, 8 shunt/shuntlaw01.LimbBack, 9 shunt/shuntlaw01.LimbSums, 10 shunt/shuntlaw01.LimbDivides, 11 shunt/shuntlaw01.awake, 12 shunt/shuntlaw01.long, 13 shunt/shuntlaw01.lent, 14 shunt/limb.QuoRem, 15 shunt/shuntref01.QuoRem, 16 shunt/limb.Exact, 17 shunt/shuntref01.Two, 18 shunt/limb.Gcd, 19 shunt/shuntlaw01.same, 20 shunt/shuntlaw01.whole, 21 shunt/shuntref01.Right, 22 shunt/limb.Int64, 23 shunt/shuntref01.Int64, 24 shunt/limb.Text, 25 shunt/shuntref01.Text, 26 shunt/limb.Of, 27 shunt/shuntref01.Give, 28 shunt/shuntref01.Wide, 29 shunt/limb.Check, 30 shunt/limb.Fits, 31 shunt/limb.Add, 32 shunt/limb.Sub, 33 shunt/limb.Mul, 34 shunt/limb.Cmp, 35 shunt/limb.Parse, 36 shunt/shuntref01.Parse, 37 shunt/shuntref01.Cmp, 38 shunt/limb.both, 39 (*shunt/big.Int).QuoRem, 40 shunt/wide.Take, 41 shunt/wide.Give, 42 shunt/shuntref01.Divide, 43 shunt/shuntref01.Take, 44 shunt/shuntref01.told, 45 shunt/shuntref01.Plus, 46 shunt/shuntref01.Less, 47 shunt/shuntref01.Times, 48 shunt/shuntref01.Common, 49 shunt/shuntref01.Sign, 50 shunt/big.Gcd, 51 shunt/shuntref01.Same, 52 (*shunt/big.Int).Int64, 53 shunt/shuntref01.Whole, 54 (*shunt/big.Int).String, 55 shunt/shuntref01.Digits, 56 shunt/big.NewInt, 57 shunt/limb.answer, 58 (*shunt/big.Int).Add, 59 (*shunt/big.Int).Sub, 60 (*shunt/big.Int).Mul, 61 (*shunt/big.Int).Cmp, 62 shunt/big.Digits, 63 (*shunt/big.Int).Neg, 64 shunt/shuntref01.Number, 65 shunt/shuntref01.Held, 66 shunt/big.divide, 67 (*shunt/big.Int).set, 68 shunt/big.Of, 69 (*shunt/big.Int).Sign, 70 (*shunt/big.Int).Words, 71 shunt/shuntref01.trim, 72 shunt/shuntref01.digit, 73 shunt/shuntref01.minus, 74 shunt/shuntref01.Small, 75 shunt/shuntref01.Length, 76 shunt/shuntref01.plus, 77 shunt/shuntref01.mags, 78 shunt/shuntref01.Minus, 79 shunt/shuntref01.Abs, 80 shunt/big.trim, 81 shunt/big.short, 82 (*shunt/big.Int).sum, 83 shunt/big.cmp, 84 shunt/big.long, 85 shunt/big.add, 86 shunt/big.sub, 87 shunt/big.shift, 88 shunt/big.take
noncomputable def cf : Cfg := { T := Ty, F := fun f => Try.prog.funcs[f]?, X := fun _ => none, mutA := muts, ownR := owns, keep := kps }
end Go.Proofs.Ytghdpmejgonjmaa.Am
