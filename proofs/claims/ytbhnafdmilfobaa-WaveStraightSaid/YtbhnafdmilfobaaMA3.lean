/- The tables of this seat's program as the abstract machine reads them. -/
import Derived.Test.YtbhnafdmilfobaaMA2
import Derived.Test.YtbhnafdmilfobaaProg
import Derived.Test.YtbhnafdmilfobaaChecked

namespace Go.Proofs.Ytbhnafdmilfobaa.Am
open Go
def Ty : TypeId → Option TI
  | 0 => some ⟨.oth, 1, 0, false, []⟩
  | 2 => some ⟨.int .i64, 1, 8, false, [.int .i64 0]⟩
  | 3 => some ⟨.int .i64, 1, 8, false, [.int .i64 0]⟩
  | 4 => some ⟨.bool, 1, 1, false, [.bool false]⟩
  | 5 => some ⟨.int .u8, 1, 1, false, [.int .u8 0]⟩
  | 9 => some ⟨.str, 1, 16, false, [.str ⟨#[]⟩]⟩
  | 22 => some ⟨.sl 49, 1, 24, false, [.snil 2 49]⟩
  | 24 => some ⟨.st [(0, 1), (1, 1), (2, 1), (3, 1)] [9, 5, 22, 22], 4, 72, true, [.str ⟨#[]⟩, .int .u8 0, .snil 2 49, .snil 2 49]⟩
  | 25 => some ⟨.sl 72, 1, 24, false, [.snil 1 72]⟩
  | 27 => some ⟨.st [(0, 1), (1, 1)] [4, 25], 2, 32, true, [.bool false, .snil 1 72]⟩
  | 29 => some ⟨.st [(0, 2), (2, 2)] [27, 27], 4, 64, true, [.bool false, .snil 1 72, .bool false, .snil 1 72]⟩
  | 33 => some ⟨.int .i64, 1, 8, false, [.int .i64 0]⟩
  | 34 => some ⟨.oth, 1, 0, false, []⟩
  | 38 => some ⟨.sl 3, 1, 24, false, [.snil 1 3]⟩
  | 40 => some ⟨.st [(0, 1), (1, 1), (2, 1)] [3, 22, 38], 3, 56, true, [.int .i64 0, .snil 2 49, .snil 1 3]⟩
  | 42 => some ⟨.oth, 1, 0, false, []⟩
  | 44 => some ⟨.oth, 1, 0, false, []⟩
  | 49 => some ⟨.st [(0, 1), (1, 1)] [2, 3], 2, 16, true, [.int .i64 0, .int .i64 0]⟩
  | 53 => some ⟨.oth, 1, 0, false, []⟩
  | 57 => some ⟨.oth, 1, 0, false, []⟩
  | 65 => some ⟨.sl 29, 1, 24, false, [.snil 4 29]⟩
  | 70 => some ⟨.oth, 1, 0, false, []⟩
  | 72 => some ⟨.int .u32, 1, 4, false, [.int .u32 0]⟩
  | 77 => some ⟨.st [(0, 1), (1, 1)] [4, 38], 2, 32, true, [.bool false, .snil 1 3]⟩
  | 83 => some ⟨.ptr, 1, 8, false, [.nilp]⟩
  | 96 => some ⟨.oth, 1, 8, false, []⟩
  | 98 => some ⟨.st [(0, 1), (1, 1)] [4, 25], 2, 32, true, [.bool false, .snil 1 72]⟩
  | 100 => some ⟨.st [(0, 2), (2, 2)] [98, 98], 4, 64, true, [.bool false, .snil 1 72, .bool false, .snil 1 72]⟩
  | 105 => some ⟨.st [(0, 2), (2, 2)] [77, 77], 4, 64, true, [.bool false, .snil 1 3, .bool false, .snil 1 3]⟩
  | 111 => some ⟨.ptr, 1, 8, false, [.nilp]⟩
  | 116 => some ⟨.arr 2 22, 2, 48, true, [.snil 2 49, .snil 2 49]⟩
  | 119 => some ⟨.oth, 1, 0, false, []⟩
  | 122 => some ⟨.oth, 1, 0, false, []⟩
  | 136 => some ⟨.int .u64, 1, 8, false, [.int .u64 0]⟩
  | 138 => some ⟨.int .u64, 1, 8, false, [.int .u64 0]⟩
  | 139 => some ⟨.sl 5, 1, 24, false, [.snil 1 5]⟩
  | 140 => some ⟨.oth, 1, 0, false, []⟩
  | 146 => some ⟨.oth, 1, 0, false, []⟩
  | 148 => some ⟨.oth, 1, 0, false, []⟩
  | 152 => some ⟨.oth, 1, 0, false, []⟩
  | _ => none
def kps : FuncId → Nat → List Kp
  | 3, 0 => [.s 1, .b 3, .b 5, .s 7]
  | 7, 0 => [.s 1, .s 5, .b 7, .s 19, .s 20]
  | 9, 0 => [.s 1, .b 2, .s 5, .s 6, .s 41, .s 42, .s 43]
  | 10, 0 => [.b 3, .b 4, .b 5, .s 63, .s 64, .s 65]
  | 15, 0 => [.b 2, .b 3, .s 6]
  | 17, 0 => [.b 1, .s 3]
  | 17, 2 => [.b 1, .s 4]
  | 18, 1 => [.s 1, .s 36, .s 37, .s 38]
  | 22, 0 => [.b 1, .s 9, .s 10, .s 11]
  | 22, 2 => [.b 1, .s 20, .s 21, .s 22]
  | 22, 5 => [.b 1, .s 7]
  | 27, 0 => [.s 1, .b 2, .b 4, .b 5, .s 8, .s 9]
  | 31, 0 => [.b 1, .s 3]
  | 31, 2 => [.b 1, .s 4]
  | 32, 0 => [.s 0, .s 3, .s 4]
  | 37, 0 => [.b 1, .s 18, .s 19]
  | 37, 2 => [.b 1, .s 18, .s 19, .s 22, .s 23, .s 24]
  | 37, 5 => [.b 1, .s 7]
  | 41, 0 => [.b 2, .b 3, .b 4]
  | 42, 0 => [.b 1, .b 2, .s 3, .s 4]
  | 43, 0 => [.s 0, .b 2, .b 3]
  | 49, 0 => [.s 0, .s 3]
  | 50, 0 => [.s 5, .s 6, .s 7, .s 29]
  | 53, 0 => [.s 1, .b 2, .s 5]
  | 65, 0 => [.b 2, .b 3, .s 5]
  | 66, 0 => [.s 0, .s 3]
  | 69, 0 => [.s 3, .s 6, .s 7, .s 8]
  | 76, 0 => [.s 0, .s 3, .s 4]
  | 76, 2 => [.s 0, .s 3, .s 4, .s 6, .s 7]
  | 76, 4 => [.s 3, .s 8, .s 9]
  | 77, 0 => [.s 14, .s 15, .s 16]
  | 81, 0 => [.b 2, .b 3, .b 4, .b 5, .s 6, .s 7, .s 8]
  | 82, 0 => [.s 0, .s 3]
  | 84, 0 => [.s 0, .s 1, .s 2, .s 7, .s 29, .s 30, .s 31]
  | 84, 2 => [.s 0, .s 1, .s 2, .s 7, .s 8, .s 9, .s 10, .s 29, .s 30, .s 31, .s 39, .s 40, .s 41]
  | 92, 0 => [.s 3, .s 4, .s 7, .s 8]
  | 95, 0 => [.b 2, .b 3, .b 4, .s 5, .s 6]
  | 95, 2 => [.b 2, .b 3, .b 4, .s 5, .s 6, .s 7, .s 8]
  | 96, 0 => [.b 2, .b 3, .s 4]
  | 98, 0 => [.s 0, .b 2, .b 3, .s 4]
  | 102, 0 => [.s 0, .s 3]
  | 103, 0 => [.s 0, .s 1, .s 6, .s 7, .s 8]
  | 106, 0 => [.s 0, .s 1, .s 5, .s 6]
  | 107, 0 => [.s 0, .s 1, .s 5, .s 6, .s 7]
  | 109, 0 => [.s 5, .s 6]
  | 111, 0 => [.s 0, .s 1, .s 5]
  | 113, 0 => [.s 0, .s 4, .s 5]
  | 119, 0 => [.s 0, .s 1, .s 5, .s 6, .s 7]
  | 120, 0 => [.s 0, .s 1, .s 5]
  | 122, 0 => [.s 0, .s 1, .s 5, .s 6, .s 21, .s 22]
  | 123, 0 => [.s 0, .s 1, .s 5, .s 6, .s 13, .s 14]
  | 124, 0 => [.s 0, .s 1, .s 6]
  | 124, 2 => [.s 4, .s 6, .s 7, .s 8, .s 9, .s 10]
  | 124, 4 => [.s 4, .s 6, .s 7, .s 8, .s 9, .s 10, .s 12, .s 13]
  | 124, 6 => [.s 4, .s 5, .s 6, .s 8, .s 139, .s 140]
  | 125, 0 => [.s 1, .s 5, .s 13, .s 14, .s 15]
  | 126, 0 => [.s 0, .s 1, .s 2, .s 7, .s 8, .s 14, .s 15]
  | 126, 2 => [.s 0, .s 1, .s 2, .s 7, .s 61, .s 62]
  | _, _ => []
def muts : FuncId → Bool
  | 126 => true
  | 82 => true
  | _ => false
def owns : FuncId → Bool
  | 74 => true
  | 101 => true
  | 82 => true
  | 125 => true
  | 21 => true
  | _ => false
-- types: 0, 2, 3, 4, 5, 9, 22, 24, 25, 27, 29, 33, 34, 38, 40, 42, 44, 49, 53, 57, 65, 70, 72, 77, 83, 96, 98, 100, 105, 111, 116, 119, 122, 136, 138, 139, 140, 146, 148, 152
-- funcs: 3 shunt/shuntlaw05.ModelWalk, 4 shunt/shuntlaw04.WaveStraight, 5 shunt/shuntlaw04.WaveCorners, 6 shunt/shuntlaw04.WaveAgain, 7 shunt/shuntlaw04.WaveFlat, 8 shunt/shuntlaw05.ModelUnbroken, 9 shunt/shuntlaw04.WaveBetween, 10 shunt/shuntlaw05.ModelRises, 11 shunt/shuntlaw05.awake, 12 shunt/shuntref05.Fault, 13 shunt/shuntref02.Fault, 14 shunt/model.Side, 15 shunt/model.Find, 16 shunt/shuntlaw04.awake, 17 shunt/shuntref04.Valid, 18 shunt/wave.Next, 19 shunt/wave.At, 20 shunt/num.Grid, 21 shunt/shuntlaw04.lent, 22 shunt/wave.Valid, 23 shunt/shuntref03.Valid, 24 shunt/num.Value, 25 shunt/rat.Mul, 26 shunt/shuntlaw05.whole, 27 shunt/model.Part, 28 shunt/shuntlaw05.line, 29 shunt/shuntref02.Same, 30 shunt/num.Cmp, 31 shunt/shuntref05.Valid, 32 shunt/shuntref02.Faults, 33 shunt/rat.Cmp, 34 shunt/rat.Make, 35 shunt/limb.Of, 36 shunt/limb.Text, 37 shunt/model.Valid, 38 shunt/model.Count, 39 shunt/shuntref01.Right, 40 shunt/shuntref01.Held, 41 shunt/shuntref01.Common, 42 shunt/shuntref01.Take, 43 shunt/shuntref01.Small, 44 shunt/model.check, 45 shunt/rat.Check, 46 shunt/wide.Rat, 47 (*shunt/big.Rat).Cmp, 48 shunt/model.knot, 49 shunt/shuntref04.rising, 50 shunt/wave.corners, 51 shunt/wave.value, 52 shunt/wave.pulse, 53 shunt/wave.pwl, 54 (*shunt/big.Rat).Mul, 55 shunt/big.NewRat, 56 shunt/rat.Round, 57 shunt/wide.Frac, 58 shunt/num.Valid, 59 shunt/num.frac, 60 shunt/rat.two, 61 (*shunt/big.Rat).Sub, 62 shunt/model.value, 63 (*shunt/big.Rat).Add, 64 shunt/rat.Add, 65 shunt/shuntref01.Same, 66 shunt/shuntref05.Name, 67 shunt/shuntref02.Held, 68 shunt/shuntref03.Of, 69 shunt/rat.all, 70 shunt/limb.Check, 71 shunt/rat.answer, 72 shunt/big.Frac, 73 shunt/wide.Take, 74 shunt/wide.Give, 75 shunt/big.NewInt, 76 (*shunt/big.Int).String, 77 shunt/model.Name, 78 shunt/shuntref01.Sign, 79 shunt/shuntref01.Less, 80 shunt/shuntref01.Abs, 81 shunt/shuntref01.Divide, 82 shunt/shuntref01.trim, 83 shunt/limb.Gcd, 84 (*shunt/big.Int).Mul, 85 (*shunt/big.Rat).Denom, 86 (*shunt/big.Int).Cmp, 87 shunt/wave.between, 88 (*shunt/big.Rat).frac, 89 shunt/rat.Grid, 90 shunt/rat.Near, 91 (*shunt/big.Rat).Num, 92 shunt/big.Ten, 93 (*shunt/big.Rat).Neg, 94 (*shunt/big.Int).Add, 95 shunt/shuntref01.Times, 96 shunt/shuntref01.Wide, 97 shunt/shuntref02.Lowest, 98 shunt/shuntref03.power, 99 shunt/big.Of, 100 (*shunt/big.Int).Sign, 101 (*shunt/big.Int).Words, 102 shunt/big.trim, 103 shunt/big.short, 104 shunt/shuntref01.Plus, 105 shunt/shuntref01.Minus, 106 shunt/shuntref01.digit, 107 shunt/shuntref01.minus, 108 shunt/limb.both, 109 shunt/big.Gcd, 110 (*shunt/big.Int).set, 111 shunt/big.cmp, 112 (*shunt/big.Int).Quo, 113 (*shunt/big.Int).Int64, 114 (*shunt/big.Int).QuoRem, 115 (*shunt/big.Int).Abs, 116 (*shunt/big.Int).Odd, 117 (*shunt/big.Int).Neg, 118 (*shunt/big.Int).sum, 119 shunt/shuntref01.plus, 120 shunt/shuntref01.mags, 121 shunt/big.divide, 122 shunt/big.add, 123 shunt/big.sub, 124 shunt/big.long, 125 shunt/big.shift, 126 shunt/big.take
noncomputable def cf : Cfg := { T := Ty, F := fun f => Try.prog.funcs[f]?, X := fun _ => none, mutA := muts, ownR := owns, keep := kps }
end Go.Proofs.Ytbhnafdmilfobaa.Am

/- Layer 45: the tables are the program's. -/
set_option linter.unusedVariables false
set_option maxRecDepth 100000
namespace Go.Proofs.Ytbhnafdmilfobaa.Am
open Go
theorem ty_ok : TyOk Try.prog Ty := by
  intro t i h
  unfold Ty at h
  split at h <;> first | (cases h; done) | (cases h; exact tok_of (by kernel_rfl))
theorem names : (Try.prog.funcs.toList.all fun fn => !(fn.name == "runtime.NumGoroutine")) = true := by kernel_rfl
theorem cfg_ok : CfgOk Try.prog cf :=
  { ty := ty_ok, fn := fun f fn e => names_ok names e, ext := (fun f g args rs e _ => by cases e), mo := by kernel_rfl }
end Go.Proofs.Ytbhnafdmilfobaa.Am

/- A law's arguments, opened as typed words; the law's call. -/
set_option linter.unusedVariables false
set_option linter.unusedSimpArgs false
namespace Go.Proofs.Ytbhnafdmilfobaa.Am
open Go Go.RowKit Go.WideShapes

def cdPL (f : TypeId → Option Cd) : List Field → Option Cd
  | [] => none
  | [x] => f x.type
  | x :: r => (f x.type).bind fun a => (cdPL f r).bind fun b => some (.pr a b)
/-- At least so many bytes. -/
def Cd.by : Cd → Nat
  | .int .i8 | .int .u8 | .bool => 1
  | .int .i16 | .int .u16 => 2
  | .int .i32 | .int .u32 => 4
  | .int _ => 8
  | .str => 16
  | .sl _ => 24
  | .pr a b => a.by + b.by
/-- A type's words, by the program's own tables. -/
def cdP (P : Program) : Nat → TypeId → Option Cd
  | 0, _ => none
  | k + 1, t => match P.underlying t with
    | some (.int k) => some (.int k)
    | some .bool => some .bool
    | some .string => some .str
    | some (.slice e) => (cdP P k e).bind fun c => if P.cellsOf e = c.sz ∧ c.by ≤ P.bytesOf e then some (.sl c) else none
    | some (.struct fs) => if tiles P fs.toList 0 (P.cellsOf t) = true then cdPL (cdP P k) fs.toList else none
    | _ => none
/-- What an argument's words keep to. -/
def Wfd : (c : Cd) → c.D → Prop
  | .int k, n => (Lit.int k n).wf = true
  | .bool, _ => True
  | .str, s => s.size ≤ maxLen ∧ s.size ≤ reachBytes
  | .sl c, l => (l.length ≤ maxLen ∧ l.length * c.by ≤ reachBytes) ∧ ∀ x ∈ l, Wfd c x
  | .pr a b, x => Wfd a x.1 ∧ Wfd b x.2

section
variable {P : Program}
theorem typed_cd : ∀ (k : Nat) (t : TypeId) (c : Cd), cdP P k t = some c → ∀ xs : List At, Typed P t xs → ∃ y : c.D, xs = c.at y ∧ Wfd c y := by
  intro k
  induction k with
  | zero => intro t c h; cases h
  | succ k ih =>
    intro t c h xs ht
    simp only [cdP] at h
    split at h
    · rename_i kk hu
      cases h
      obtain ⟨n, rfl, hw⟩ := typed_int hu ht
      exact ⟨n, rfl, hw⟩
    · rename_i hu
      cases h
      obtain ⟨b, rfl⟩ := typed_bool hu ht
      exact ⟨b, rfl, trivial⟩
    · rename_i hu
      cases h
      obtain ⟨s, rfl, hs⟩ := typed_str hu ht
      exact ⟨s, rfl, hs⟩
    · rename_i e hu
      simp only [Option.bind_eq_some_iff] at h
      obtain ⟨c', h1, h⟩ := h
      split at h
      · rename_i hz
        cases h
        obtain ⟨els, rfl, hn, hnb, hel⟩ := typed_sl hu ht
        have key : ∀ els : List (List At), (∀ el ∈ els, Typed P e el) → ∃ l : List c'.D, els = l.map c'.at ∧ ∀ x ∈ l, Wfd c' x := by
          intro els
          induction els with
          | nil => intro _; exact ⟨[], rfl, by simp⟩
          | cons x r ih2 =>
            intro hx
            obtain ⟨y, rfl, hw⟩ := ih e c' h1 x (hx x (List.mem_cons_self ..))
            obtain ⟨l, rfl, hl⟩ := ih2 fun el hm => hx el (List.mem_cons_of_mem _ hm)
            exact ⟨y :: l, rfl, fun z hz => by
              rcases List.mem_cons.1 hz with rfl | hz
              · exact hw
              · exact hl z hz⟩
        obtain ⟨l, rfl, hl⟩ := key els hel
        rw [List.length_map] at hn hnb ⊢
        exact ⟨l, by simp only [Cd.at, hz.1], ⟨hn, Nat.le_trans (Nat.mul_le_mul_left _ hz.2) hnb⟩, hl⟩
      · cases h
    · rename_i fs hu
      split at h
      · rename_i htile
        obtain ⟨hcl, hf⟩ := typed_st hu ht
        have key : ∀ (l : List Field) (o : Nat) (c : Cd), cdPL (cdP P k) l = some c → tiles P l o (P.cellsOf t) = true → (∀ f ∈ l, Typed P f.type ((xs.drop f.offset).take (P.cellsOf f.type))) → ∃ y : c.D, xs.drop o = c.at y ∧ Wfd c y := by
          intro l
          induction l with
          | nil => intro o c h; cases h
          | cons f r ih2 =>
            intro o c h ho hfs
            simp only [tiles, Bool.and_eq_true, beq_iff_eq] at ho
            obtain ⟨rfl, ho⟩ := ho
            have h0 := hfs f (List.mem_cons_self ..)
            cases r with
            | nil =>
              simp only [cdPL] at h
              simp only [tiles, beq_iff_eq] at ho
              obtain ⟨y, h2, h3⟩ := ih f.type c h _ h0
              refine ⟨y, ?_, h3⟩
              rw [← h2, List.take_of_length_le]
              rw [List.length_drop]; omega
            | cons g r =>
              simp only [cdPL, Option.bind_eq_some_iff] at h
              obtain ⟨a, h4, b, h5, h⟩ := h
              cases h
              obtain ⟨y, h2, h3⟩ := ih f.type a h4 _ h0
              obtain ⟨z, h6, h7⟩ := ih2 _ b h5 ho fun g hg => hfs g (List.mem_cons_of_mem _ hg)
              refine ⟨(y, z), ?_, h3, h7⟩
              simp only [Cd.at]
              rw [← h2, ← h6, ← List.drop_drop, List.take_append_drop]
        obtain ⟨y, h1, h2⟩ := key fs.toList 0 c h htile fun f hfm => by
          obtain ⟨i, hi⟩ := List.getElem?_of_mem hfm
          exact hf i f (by simpa using hi)
        exact ⟨y, by simpa using h1, h2⟩
      · cases h
    · cases h

def isStP (P : Program) (t : TypeId) : Bool := match P.underlying t with
  | some (.struct _) => true
  | _ => false
/-- An argument as the typed machine has it. -/
def argV (st : Bool) (c : Cd) (y : c.D) : V2 := if st then .g (c.cl y) else .a ((c.cl y).headD .nilp)
variable {H : Type} {enc : TypeId × Value → H} {w : World} {base : Nat} {sp : Nat → Bool} {held : Bool}
theorem open_cd {d base' : Nat} {t : TypeId} {c : Cd} (st : Bool) (ht : plainT P d t = true) (hc : cdP P 9 t = some c) (hst : isStP P t = st) {v : Value} (hval : Value.okWide P w .any base' t v) {D : DataW H} {ps : List MemPlace}
    (hd : DataW.Trod enc P w base sp held t v D ps) (hwt : (DataW.weights P t D).all (· ≤ reachBytes) = true) : ∃ y : c.D, RV (fun _ => none) (view w) (argV st c y).at v ∧ namesV [(argV st c y).at] = [] ∧ Wfd c y := by
  obtain ⟨x, h1, h2, h3, h4, h5⟩ := open_arg ht hval hd hwt
  obtain ⟨y, h6, h7⟩ := typed_cd 9 t c hc _ h3
  have hx : x = (argV st c y).at := by
    unfold isStP at hst
    cases hu : P.underlying t with
    | none => rw [hu] at hst; simp only at hst; subst hst
              rcases h4 with ⟨z, rfl⟩ | ⟨fs, e⟩
              · simp only [argV, Bool.false_eq_true, if_false, V2.at]
                simp only [Vl.cells] at h6
                rw [← cl_at] at h6
                match hq : c.cl y, h6 with
                | [], h6 => cases h6
                | q :: r, h6 => simp only [List.map_cons, List.cons.injEq] at h6; rw [h6.1]; rfl
              · rw [hu] at e; cases e
    | some dd =>
      cases st with
      | true =>
        have hs : ∃ fs, P.underlying t = some (.struct fs) := by
          rw [hu] at hst
          cases dd <;> simp only at hst <;> first | exact ⟨_, hu⟩ | cases hst
        rcases h5 with ⟨ys, rfl⟩ | e
        · simp only [argV, if_true, V2.at, cl_at]
          rw [← h6]; rfl
        · exact absurd hs e
      | false =>
        rcases h4 with ⟨z, rfl⟩ | ⟨fs, e⟩
        · simp only [argV, Bool.false_eq_true, if_false, V2.at]
          simp only [Vl.cells] at h6
          rw [← cl_at] at h6
          match hq : c.cl y, h6 with
          | [], h6 => cases h6
          | q :: r, h6 => simp only [List.map_cons, List.cons.injEq] at h6; rw [h6.1]; rfl
        · rw [hu] at e hst; cases e; cases hst
  subst hx
  exact ⟨y, h1, h2, h7⟩
theorem rvs_nil {ι : Io} {h : Hp} : RVs ι h [] [] := ⟨rfl, by simp⟩
theorem rvs_cons {ι : Io} {h : Hp} {x : Vl} {v : Value} {xs : List Vl} {vs : List Value} (h1 : RV ι h x v) (h2 : RVs ι h xs vs) : RVs ι h (x :: xs) (v :: vs) := by
  refine ⟨by simp [h2.1], fun j y e => ?_⟩
  cases j with
  | zero => simp at e; subst e; exact ⟨v, rfl, h1⟩
  | succ j => simp at e; simpa using h2.2 j y e
theorem names_cons {x : Vl} {xs : List Vl} (h1 : namesV [x] = []) (h2 : namesV xs = []) : namesV (x :: xs) = [] := by
  simp only [namesV, List.flatMap_cons, List.flatMap_nil, List.append_nil] at h1 h2 ⊢
  rw [h1, h2]; rfl
/-- A law's call, by its printed function. -/
theorem law_inst {c : Cfg} (hk : CfgOk P c) {k : Nat} {i : Inst} (hi : InstOk (call c k) i) {x : i.sh.D} {y : DS FS.D i.os} (h : i.F x = some y) (hy : encS FS.enc i.os y = ([.a (.bool true)], []))
    {args : List V2} (ha : i.sh.enc x = (args, [])) {vals : Array Value} (hr : RVs (fun _ => none) (view w) (args.map V2.at) vals.toList) (hn : namesV (args.map V2.at) = []) :
    Calls P i.f vals w fun e w' => e = .returned (.bool true) ∧ Below w.heap.size w w' := by
  have := hi x y h
  rw [hy, ha] at this
  exact law_calls hk hr hn this
end
end Go.Proofs.Ytbhnafdmilfobaa.Am
