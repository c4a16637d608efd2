/- The tables of this seat's program as the abstract machine reads them. -/
import Derived.Test.YtjgpegpjmkgkkaaGreatMA2
import Derived.Test.YtjgpegpjmkgkkaaGreatProg
import Derived.Test.YtjgpegpjmkgkkaaGreatChecked

namespace Go.Proofs.YtjgpegpjmkgkkaaGreat.Am
open Go
def Ty : TypeId → Option TI
  | 0 => some ⟨.oth, 1, 0, false, []⟩
  | 2 => some ⟨.int .i64, 1, 8, false, [.int .i64 0]⟩
  | 3 => some ⟨.int .i64, 1, 8, false, [.int .i64 0]⟩
  | 4 => some ⟨.bool, 1, 1, false, [.bool false]⟩
  | 5 => some ⟨.int .u8, 1, 1, false, [.int .u8 0]⟩
  | 22 => some ⟨.sl 40, 1, 24, false, [.snil 1 40]⟩
  | 24 => some ⟨.st [(0, 1), (1, 1)] [4, 22], 2, 32, true, [.bool false, .snil 1 40]⟩
  | 26 => some ⟨.st [(0, 2), (2, 2)] [24, 24], 4, 64, true, [.bool false, .snil 1 40, .bool false, .snil 1 40]⟩
  | 30 => some ⟨.int .i64, 1, 8, false, [.int .i64 0]⟩
  | 31 => some ⟨.oth, 1, 0, false, []⟩
  | 33 => some ⟨.oth, 1, 0, false, []⟩
  | 35 => some ⟨.oth, 1, 0, false, []⟩
  | 37 => some ⟨.oth, 1, 0, false, []⟩
  | 40 => some ⟨.int .u32, 1, 4, false, [.int .u32 0]⟩
  | 42 => some ⟨.oth, 1, 0, false, []⟩
  | 45 => some ⟨.sl 24, 1, 24, false, [.snil 2 24]⟩
  | 48 => some ⟨.oth, 1, 8, false, []⟩
  | 50 => some ⟨.ptr, 1, 8, false, [.nilp]⟩
  | 55 => some ⟨.sl 26, 1, 24, false, [.snil 4 26]⟩
  | 56 => some ⟨.sl 3, 1, 24, false, [.snil 1 3]⟩
  | 58 => some ⟨.st [(0, 1), (1, 1)] [4, 56], 2, 32, true, [.bool false, .snil 1 3]⟩
  | 60 => some ⟨.st [(0, 2), (2, 2)] [58, 58], 4, 64, true, [.bool false, .snil 1 3, .bool false, .snil 1 3]⟩
  | 69 => some ⟨.ptr, 1, 8, false, [.nilp]⟩
  | 73 => some ⟨.oth, 1, 0, false, []⟩
  | 77 => some ⟨.st [(0, 1), (1, 1)] [4, 22], 2, 32, true, [.bool false, .snil 1 40]⟩
  | 79 => some ⟨.st [(0, 2), (2, 2)] [77, 77], 4, 64, true, [.bool false, .snil 1 40, .bool false, .snil 1 40]⟩
  | 95 => some ⟨.oth, 1, 0, false, []⟩
  | 97 => some ⟨.oth, 1, 0, false, []⟩
  | 104 => some ⟨.int .u64, 1, 8, false, [.int .u64 0]⟩
  | 105 => some ⟨.int .u64, 1, 8, false, [.int .u64 0]⟩
  | 113 => some ⟨.oth, 1, 0, false, []⟩
  | 119 => some ⟨.oth, 1, 0, false, []⟩
  | 122 => some ⟨.oth, 1, 0, false, []⟩
  | _ => none
def kps : FuncId → Nat → List Kp
  | 3, 0 => [.b 2, .b 3, .b 5, .b 6, .b 7, .b 17, .b 27, .s 168, .s 169]
  | 3, 2 => [.b 2, .b 3, .b 5, .b 6, .b 7, .b 17, .b 27, .s 181, .s 182]
  | 5, 0 => [.s 3, .s 6, .s 7, .s 8]
  | 24, 0 => [.s 3, .s 6, .s 7, .s 8]
  | 28, 0 => [.s 0, .s 3, .s 4]
  | 46, 0 => [.s 0, .s 1, .s 2, .s 7, .s 29, .s 30, .s 31]
  | 46, 2 => [.s 0, .s 1, .s 2, .s 7, .s 8, .s 9, .s 10, .s 29, .s 30, .s 31, .s 39, .s 40, .s 41]
  | 54, 0 => [.b 1, .b 2, .s 3, .s 4]
  | 59, 0 => [.b 2, .b 3, .b 4, .s 5, .s 6]
  | 59, 2 => [.b 2, .b 3, .b 4, .s 5, .s 6, .s 7, .s 8]
  | 63, 0 => [.b 2, .b 3, .s 5]
  | 66, 0 => [.s 0, .s 4, .s 5]
  | 73, 0 => [.s 5, .s 6]
  | 80, 0 => [.s 0, .s 1, .s 5]
  | 82, 0 => [.b 2, .b 3, .b 4]
  | 83, 0 => [.s 0, .b 2, .b 3]
  | 84, 0 => [.s 0, .s 3]
  | 85, 0 => [.b 1, .b 2, .b 3, .s 4]
  | 87, 0 => [.b 2, .b 3, .b 4, .b 5, .s 6, .s 7, .s 8]
  | 88, 0 => [.s 0, .s 1, .s 5, .s 6, .s 7]
  | 89, 0 => [.s 0, .s 1, .s 5]
  | 90, 0 => [.s 0, .s 1, .s 5, .s 6, .s 7]
  | 93, 0 => [.s 0, .s 3]
  | 95, 0 => [.s 0, .s 1, .s 5, .s 6, .s 21, .s 22]
  | 96, 0 => [.s 0, .s 1, .s 5, .s 6, .s 13, .s 14]
  | 98, 0 => [.s 0, .s 1, .s 5, .s 6]
  | 99, 0 => [.s 0, .s 1, .s 6, .s 7, .s 8]
  | 100, 0 => [.s 0, .s 1, .s 6]
  | 100, 2 => [.s 4, .s 6, .s 7, .s 8, .s 9, .s 10]
  | 100, 4 => [.s 4, .s 6, .s 7, .s 8, .s 9, .s 10, .s 12, .s 13]
  | 100, 6 => [.s 4, .s 5, .s 6, .s 8, .s 139, .s 140]
  | 101, 0 => [.s 1, .s 5, .s 13, .s 14, .s 15]
  | 102, 0 => [.s 0, .s 1, .s 2, .s 7, .s 8, .s 14, .s 15]
  | 102, 2 => [.s 0, .s 1, .s 2, .s 7, .s 61, .s 62]
  | _, _ => []
def muts : FuncId → Bool
  | 102 => true
  | 84 => true
  | 15 => true
  | _ => false
def owns : FuncId → Bool
  | 64 => true
  | 92 => true
  | 84 => true
  | 101 => true
  | 6 => true
  | 19 => true
  | 7 => true
  | 20 => true
  | 45 => true
  | 74 => true
  | _ => false
-- types: 0, 2, 3, 4, 5, 22, 24, 26, 30, 31, 33, 35, 37, 40, 42, 45, 48, 50, 55, 56, 58, 60, 69, 73, 77, 79, 95, 97, 104, 105, 113, 119, 122
-- funcs: 3 shunt/shuntlaw02.RatCalls, 4 shunt/shuntlaw02.awake, 5 shunt/shuntlaw02.long, 6 shunt/shuntlaw02.lent, 7 shunt/rat.Add, 8 shunt/rat.Sub, 9 shunt/rat.Mul, 10 shunt/rat.Div, 11 shunt/rat.Cmp, 12 shunt/shuntref02.Two, 13 shunt/shuntref02.Cmp, 14 shunt/shuntlaw02.same, 15 shunt/shuntlaw02.whole, 16 shunt/shuntlaw02.of, 17 shunt/rat.Round, 18 shunt/rat.Check, 19 shunt/shuntlaw02.lentInt, 20 shunt/rat.two, 21 (*shunt/big.Rat).Add, 22 (*shunt/big.Rat).Sub, 23 (*shunt/big.Rat).Mul, 24 shunt/rat.all, 25 (*shunt/big.Rat).Quo, 26 shunt/wide.Rat, 27 (*shunt/big.Rat).Cmp, 28 shunt/shuntref02.Faults, 29 shunt/shuntref02.Take, 30 shunt/shuntref02.told, 31 shunt/shuntref02.Plus, 32 shunt/shuntref02.Less, 33 shunt/shuntref02.Times, 34 shunt/shuntref02.Sign, 35 shunt/shuntref02.Over, 36 shunt/shuntref02.Held, 37 shunt/shuntref02.Same, 38 shunt/rat.Make, 39 shunt/limb.Of, 40 shunt/rat.Grid, 41 shunt/rat.Near, 42 shunt/wide.Take, 43 shunt/limb.Check, 44 shunt/limb.Gcd, 45 shunt/rat.answer, 46 (*shunt/big.Int).Mul, 47 (*shunt/big.Rat).Denom, 48 (*shunt/big.Rat).frac, 49 (*shunt/big.Int).Add, 50 (*shunt/big.Rat).Neg, 51 shunt/big.Frac, 52 (*shunt/big.Int).Cmp, 53 shunt/shuntref02.Fault, 54 shunt/shuntref01.Take, 55 shunt/shuntref01.Length, 56 shunt/shuntref02.Give, 57 shunt/shuntref02.Lowest, 58 shunt/shuntref01.Plus, 59 shunt/shuntref01.Times, 60 shunt/shuntref02.Minus, 61 shunt/shuntref01.Sign, 62 shunt/shuntref01.Held, 63 shunt/shuntref01.Same, 64 shunt/wide.Give, 65 shunt/big.NewInt, 66 (*shunt/big.Int).Int64, 67 (*shunt/big.Int).QuoRem, 68 (*shunt/big.Int).Abs, 69 (*shunt/big.Int).Odd, 70 (*shunt/big.Int).Sign, 71 shunt/big.Of, 72 shunt/limb.both, 73 shunt/big.Gcd, 74 shunt/wide.Frac, 75 (*shunt/big.Int).set, 76 (*shunt/big.Int).Quo, 77 (*shunt/big.Int).sum, 78 (*shunt/big.Rat).Num, 79 (*shunt/big.Int).Neg, 80 shunt/big.cmp, 81 shunt/shuntref01.Right, 82 shunt/shuntref01.Common, 83 shunt/shuntref01.Small, 84 shunt/shuntref01.trim, 85 shunt/shuntref01.Give, 86 shunt/shuntref01.Minus, 87 shunt/shuntref01.Divide, 88 shunt/shuntref01.plus, 89 shunt/shuntref01.mags, 90 shunt/shuntref01.minus, 91 shunt/shuntref01.Less, 92 (*shunt/big.Int).Words, 93 shunt/big.trim, 94 shunt/big.divide, 95 shunt/big.add, 96 shunt/big.sub, 97 shunt/shuntref01.Abs, 98 shunt/shuntref01.digit, 99 shunt/big.short, 100 shunt/big.long, 101 shunt/big.shift, 102 shunt/big.take
noncomputable def cf : Cfg := { T := Ty, F := fun f => Tryz.prog.funcs[f]?, X := fun _ => none, mutA := muts, ownR := owns, keep := kps }
end Go.Proofs.YtjgpegpjmkgkkaaGreat.Am

/- Layer 02Z: the tables are the program's. -/
set_option linter.unusedVariables false
set_option maxRecDepth 100000
namespace Go.Proofs.YtjgpegpjmkgkkaaGreat.Am
open Go
theorem ty_ok : TyOk Tryz.prog Ty := by
  intro t i h
  unfold Ty at h
  split at h <;> first | (cases h; done) | (cases h; exact tok_of (by kernel_rfl))
theorem names : (Tryz.prog.funcs.toList.all fun fn => !(fn.name == "runtime.NumGoroutine")) = true := by kernel_rfl
theorem cfg_ok : CfgOk Tryz.prog cf :=
  { ty := ty_ok, fn := fun f fn e => names_ok names e, ext := (fun f g args rs e _ => by cases e), mo := by kernel_rfl }
end Go.Proofs.YtjgpegpjmkgkkaaGreat.Am

/- A law's arguments, opened as typed words; the law's call. -/
set_option linter.unusedVariables false
set_option linter.unusedSimpArgs false
namespace Go.Proofs.YtjgpegpjmkgkkaaGreat.Am
open Go Go.RowKit Go.WideShapes

def cdPL (f : TypeId → Option Cd) : List Field → Option Cd
  | [] => none
  | [x] => f x.type
  | x :: r => (f x.type).bind fun a => (cdPL f r).bind fun b => some (.pr a b)
/-- A type's words, by the program's own tables. -/
def cdP (P : Program) : Nat → TypeId → Option Cd
  | 0, _ => none
  | k + 1, t => match P.underlying t with
    | some (.int k) => some (.int k)
    | some .bool => some .bool
    | some .string => some .str
    | some (.slice e) => (cdP P k e).bind fun c => if P.cellsOf e = c.sz then some (.sl c) else none
    | some (.struct fs) => if tiles P fs.toList 0 (P.cellsOf t) = true then cdPL (cdP P k) fs.toList else none
    | _ => none
/-- What an argument's words keep to. -/
def Wfd : (c : Cd) → c.D → Prop
  | .int k, n => (Lit.int k n).wf = true
  | .bool, _ => True
  | .str, s => s.size ≤ maxLen
  | .sl c, l => l.length ≤ maxLen ∧ ∀ x ∈ l, Wfd c x
  | .pr a b, x => Wfd a x.1 ∧ Wfd b x.2

section
variable {P : Program}
theorem typed_cd : ∀ (k : Nat) (t : TypeId) (c : Cd), cdP P k t = some c → ∀ xs : List At, Typed P t xs → ∃ y : c.D, xs = c.at y ∧ Wfd c y := by
  intro k
  induction k with
  | zero => intro t c h; cases h
  | succ k ih =>
    intro t c h xs ht
    simp only [cdP] at h
    split at h
    · rename_i kk hu
      cases h
      obtain ⟨n, rfl, hw⟩ := typed_int hu ht
      exact ⟨n, rfl, hw⟩
    · rename_i hu
      cases h
      obtain ⟨b, rfl⟩ := typed_bool hu ht
      exact ⟨b, rfl, trivial⟩
    · rename_i hu
      cases h
      obtain ⟨s, rfl, hs⟩ := typed_str hu ht
      exact ⟨s, rfl, hs⟩
    · rename_i e hu
      simp only [Option.bind_eq_some_iff] at h
      obtain ⟨c', h1, h⟩ := h
      split at h
      · rename_i hz
        cases h
        obtain ⟨els, rfl, hn, hel⟩ := typed_sl hu ht
        have key : ∀ els : List (List At), (∀ el ∈ els, Typed P e el) → ∃ l : List c'.D, els = l.map c'.at ∧ ∀ x ∈ l, Wfd c' x := by
          intro els
          induction els with
          | nil => intro _; exact ⟨[], rfl, by simp⟩
          | cons x r ih2 =>
            intro hx
            obtain ⟨y, rfl, hw⟩ := ih e c' h1 x (hx x (List.mem_cons_self ..))
            obtain ⟨l, rfl, hl⟩ := ih2 fun el hm => hx el (List.mem_cons_of_mem _ hm)
            exact ⟨y :: l, rfl, fun z hz => by
              rcases List.mem_cons.1 hz with rfl | hz
              · exact hw
              · exact hl z hz⟩
        obtain ⟨l, rfl, hl⟩ := key els hel
        rw [List.length_map] at hn ⊢
        exact ⟨l, by simp only [Cd.at, hz], hn, hl⟩
      · cases h
    · rename_i fs hu
      split at h
      · rename_i htile
        obtain ⟨hcl, hf⟩ := typed_st hu ht
        have key : ∀ (l : List Field) (o : Nat) (c : Cd), cdPL (cdP P k) l = some c → tiles P l o (P.cellsOf t) = true → (∀ f ∈ l, Typed P f.type ((xs.drop f.offset).take (P.cellsOf f.type))) → ∃ y : c.D, xs.drop o = c.at y ∧ Wfd c y := by
          intro l
          induction l with
          | nil => intro o c h; cases h
          | cons f r ih2 =>
            intro o c h ho hfs
            simp only [tiles, Bool.and_eq_true, beq_iff_eq] at ho
            obtain ⟨rfl, ho⟩ := ho
            have h0 := hfs f (List.mem_cons_self ..)
            cases r with
            | nil =>
              simp only [cdPL] at h
              simp only [tiles, beq_iff_eq] at ho
              obtain ⟨y, h2, h3⟩ := ih f.type c h _ h0
              refine ⟨y, ?_, h3⟩
              rw [← h2, List.take_of_length_le]
              rw [List.length_drop]; omega
            | cons g r =>
              simp only [cdPL, Option.bind_eq_some_iff] at h
              obtain ⟨a, h4, b, h5, h⟩ := h
              cases h
              obtain ⟨y, h2, h3⟩ := ih f.type a h4 _ h0
              obtain ⟨z, h6, h7⟩ := ih2 _ b h5 ho fun g hg => hfs g (List.mem_cons_of_mem _ hg)
              refine ⟨(y, z), ?_, h3, h7⟩
              simp only [Cd.at]
              rw [← h2, ← h6, ← List.drop_drop, List.take_append_drop]
        obtain ⟨y, h1, h2⟩ := key fs.toList 0 c h htile fun f hfm => by
          obtain ⟨i, hi⟩ := List.getElem?_of_mem hfm
          exact hf i f (by simpa using hi)
        exact ⟨y, by simpa using h1, h2⟩
      · cases h
    · cases h

def isStP (P : Program) (t : TypeId) : Bool := match P.underlying t with
  | some (.struct _) => true
  | _ => false
/-- An argument as the typed machine has it. -/
def argV (st : Bool) (c : Cd) (y : c.D) : V2 := if st then .g (c.cl y) else .a ((c.cl y).headD .nilp)
variable {H : Type} {enc : TypeId × Value → H} {w : World} {base : Nat} {sp : Nat → Bool} {held : Bool}
theorem open_cd {d base' : Nat} {t : TypeId} {c : Cd} (st : Bool) (ht : plainT P d t = true) (hc : cdP P 9 t = some c) (hst : isStP P t = st) {v : Value} (hval : Value.okWide P w .any base' t v) {D : DataW H} {ps : List MemPlace}
    (hd : DataW.Trod enc P w base sp held t v D ps) : ∃ y : c.D, RV (fun _ => none) (view w) (argV st c y).at v ∧ namesV [(argV st c y).at] = [] ∧ Wfd c y := by
  obtain ⟨x, h1, h2, h3, h4, h5⟩ := open_arg ht hval hd
  obtain ⟨y, h6, h7⟩ := typed_cd 9 t c hc _ h3
  have hx : x = (argV st c y).at := by
    unfold isStP at hst
    cases hu : P.underlying t with
    | none => rw [hu] at hst; simp only at hst; subst hst
              rcases h4 with ⟨z, rfl⟩ | ⟨fs, e⟩
              · simp only [argV, Bool.false_eq_true, if_false, V2.at]
                simp only [Vl.cells] at h6
                rw [← cl_at] at h6
                match hq : c.cl y, h6 with
                | [], h6 => cases h6
                | q :: r, h6 => simp only [List.map_cons, List.cons.injEq] at h6; rw [h6.1]; rfl
              · rw [hu] at e; cases e
    | some dd =>
      cases st with
      | true =>
        have hs : ∃ fs, P.underlying t = some (.struct fs) := by
          rw [hu] at hst
          cases dd <;> simp only at hst <;> first | exact ⟨_, hu⟩ | cases hst
        rcases h5 with ⟨ys, rfl⟩ | e
        · simp only [argV, if_true, V2.at, cl_at]
          rw [← h6]; rfl
        · exact absurd hs e
      | false =>
        rcases h4 with ⟨z, rfl⟩ | ⟨fs, e⟩
        · simp only [argV, Bool.false_eq_true, if_false, V2.at]
          simp only [Vl.cells] at h6
          rw [← cl_at] at h6
          match hq : c.cl y, h6 with
          | [], h6 => cases h6
          | q :: r, h6 => simp only [List.map_cons, List.cons.injEq] at h6; rw [h6.1]; rfl
        · rw [hu] at e hst; cases e; cases hst
  subst hx
  exact ⟨y, h1, h2, h7⟩
theorem rvs_nil {ι : Io} {h : Hp} : RVs ι h [] [] := ⟨rfl, by simp⟩
theorem rvs_cons {ι : Io} {h : Hp} {x : Vl} {v : Value} {xs : List Vl} {vs : List Value} (h1 : RV ι h x v) (h2 : RVs ι h xs vs) : RVs ι h (x :: xs) (v :: vs) := by
  refine ⟨by simp [h2.1], fun j y e => ?_⟩
  cases j with
  | zero => simp at e; subst e; exact ⟨v, rfl, h1⟩
  | succ j => simp at e; simpa using h2.2 j y e
theorem names_cons {x : Vl} {xs : List Vl} (h1 : namesV [x] = []) (h2 : namesV xs = []) : namesV (x :: xs) = [] := by
  simp only [namesV, List.flatMap_cons, List.flatMap_nil, List.append_nil] at h1 h2 ⊢
  rw [h1, h2]; rfl
/-- A law's call, by its printed function. -/
theorem law_inst {c : Cfg} (hk : CfgOk P c) {k : Nat} {i : Inst} (hi : InstOk (call c k) i) {x : i.sh.D} {y : DS FS.D i.os} (h : i.F x = some y) (hy : encS FS.enc i.os y = ([.a (.bool true)], []))
    {args : List V2} (ha : i.sh.enc x = (args, [])) {vals : Array Value} (hr : RVs (fun _ => none) (view w) (args.map V2.at) vals.toList) (hn : namesV (args.map V2.at) = []) :
    Calls P i.f vals w fun e w' => e = .returned (.bool true) ∧ Below w.heap.size w w' := by
  have := hi x y h
  rw [hy, ha] at this
  exact law_calls hk hr hn this
end
end Go.Proofs.YtjgpegpjmkgkkaaGreat.Am
