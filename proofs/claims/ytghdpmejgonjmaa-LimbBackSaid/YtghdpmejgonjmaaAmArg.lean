/- A law's arguments, opened as typed words; the law's call. -/
import Derived.Test.YtghdpmejgonjmaaAmKs5
set_option linter.unusedVariables false
set_option linter.unusedSimpArgs false
namespace Go.Proofs.Ytghdpmejgonjmaa.Am
open Go Go.RowKit Go.WideShapes

def cdPL (f : TypeId → Option Cd) : List Field → Option Cd
  | [] => none
  | [x] => f x.type
  | x :: r => (f x.type).bind fun a => (cdPL f r).bind fun b => some (.pr a b)
/-- A type's words, by the program's own tables. -/
def cdP (P : Program) : Nat → TypeId → Option Cd
  | 0, _ => none
  | k + 1, t => match P.underlying t with
    | some (.int k) => some (.int k)
    | some .bool => some .bool
    | some .string => some .str
    | some (.slice e) => (cdP P k e).bind fun c => if P.cellsOf e = c.sz then some (.sl c) else none
    | some (.struct fs) => if tiles P fs.toList 0 (P.cellsOf t) = true then cdPL (cdP P k) fs.toList else none
    | _ => none
/-- What an argument's words keep to. -/
def Wfd : (c : Cd) → c.D → Prop
  | .int k, n => (Lit.int k n).wf = true
  | .bool, _ => True
  | .str, s => s.size ≤ maxLen
  | .sl c, l => l.length ≤ maxLen ∧ ∀ x ∈ l, Wfd c x
  | .pr a b, x => Wfd a x.1 ∧ Wfd b x.2

section
variable {P : Program}
theorem typed_cd : ∀ (k : Nat) (t : TypeId) (c : Cd), cdP P k t = some c → ∀ xs : List At, Typed P t xs → ∃ y : c.D, xs = c.at y ∧ Wfd c y := by
  intro k
  induction k with
  | zero => intro t c h; cases h
  | succ k ih =>
    intro t c h xs ht
    simp only [cdP] at h
    split at h
    · rename_i kk hu
      cases h
      obtain ⟨n, rfl, hw⟩ := typed_int hu ht
      exact ⟨n, rfl, hw⟩
    · rename_i hu
      cases h
      obtain ⟨b, rfl⟩ := typed_bool hu ht
      exact ⟨b, rfl, trivial⟩
    · rename_i hu
      cases h
      obtain ⟨s, rfl, hs⟩ := typed_str hu ht
      exact ⟨s, rfl, hs⟩
    · rename_i e hu
      simp only [Option.bind_eq_some_iff] at h
      obtain ⟨c', h1, h⟩ := h
      split at h
      · rename_i hz
        cases h
        obtain ⟨els, rfl, hn, hel⟩ := typed_sl hu ht
        have key : ∀ els : List (List At), (∀ el ∈ els, Typed P e el) → ∃ l : List c'.D, els = l.map c'.at ∧ ∀ x ∈ l, Wfd c' x := by
          intro els
          induction els with
          | nil => intro _; exact ⟨[], rfl, by simp⟩
          | cons x r ih2 =>
            intro hx
            obtain ⟨y, rfl, hw⟩ := ih e c' h1 x (hx x (List.mem_cons_self ..))
            obtain ⟨l, rfl, hl⟩ := ih2 fun el hm => hx el (List.mem_cons_of_mem _ hm)
            exact ⟨y :: l, rfl, fun z hz => by
              rcases List.mem_cons.1 hz with rfl | hz
              · exact hw
              · exact hl z hz⟩
        obtain ⟨l, rfl, hl⟩ := key els hel
        rw [List.length_map] at hn ⊢
        exact ⟨l, by simp only [Cd.at, hz], hn, hl⟩
      · cases h
    · rename_i fs hu
      split at h
      · rename_i htile
        obtain ⟨hcl, hf⟩ := typed_st hu ht
        have key : ∀ (l : List Field) (o : Nat) (c : Cd), cdPL (cdP P k) l = some c → tiles P l o (P.cellsOf t) = true → (∀ f ∈ l, Typed P f.type ((xs.drop f.offset).take (P.cellsOf f.type))) → ∃ y : c.D, xs.drop o = c.at y ∧ Wfd c y := by
          intro l
          induction l with
          | nil => intro o c h; cases h
          | cons f r ih2 =>
            intro o c h ho hfs
            simp only [tiles, Bool.and_eq_true, beq_iff_eq] at ho
            obtain ⟨rfl, ho⟩ := ho
            have h0 := hfs f (List.mem_cons_self ..)
            cases r with
            | nil =>
              simp only [cdPL] at h
              simp only [tiles, beq_iff_eq] at ho
              obtain ⟨y, h2, h3⟩ := ih f.type c h _ h0
              refine ⟨y, ?_, h3⟩
              rw [← h2, List.take_of_length_le]
              rw [List.length_drop]; omega
            | cons g r =>
              simp only [cdPL, Option.bind_eq_some_iff] at h
              obtain ⟨a, h4, b, h5, h⟩ := h
              cases h
              obtain ⟨y, h2, h3⟩ := ih f.type a h4 _ h0
              obtain ⟨z, h6, h7⟩ := ih2 _ b h5 ho fun g hg => hfs g (List.mem_cons_of_mem _ hg)
              refine ⟨(y, z), ?_, h3, h7⟩
              simp only [Cd.at]
              rw [← h2, ← h6, ← List.drop_drop, List.take_append_drop]
        obtain ⟨y, h1, h2⟩ := key fs.toList 0 c h htile fun f hfm => by
          obtain ⟨i, hi⟩ := List.getElem?_of_mem hfm
          exact hf i f (by simpa using hi)
        exact ⟨y, by simpa using h1, h2⟩
      · cases h
    · cases h

def isStP (P : Program) (t : TypeId) : Bool := match P.underlying t with
  | some (.struct _) => true
  | _ => false
/-- An argument as the typed machine has it. -/
def argV (st : Bool) (c : Cd) (y : c.D) : V2 := if st then .g (c.cl y) else .a ((c.cl y).headD .nilp)
variable {H : Type} {enc : TypeId × Value → H} {w : World} {base : Nat} {sp : Nat → Bool} {held : Bool}
theorem open_cd {d base' : Nat} {t : TypeId} {c : Cd} (st : Bool) (ht : plainT P d t = true) (hc : cdP P 9 t = some c) (hst : isStP P t = st) {v : Value} (hval : Value.okWide P w .any base' t v) {D : DataW H} {ps : List MemPlace}
    (hd : DataW.Trod enc P w base sp held t v D ps) : ∃ y : c.D, RV (fun _ => none) (view w) (argV st c y).at v ∧ namesV [(argV st c y).at] = [] ∧ Wfd c y := by
  obtain ⟨x, h1, h2, h3, h4, h5⟩ := open_arg ht hval hd
  obtain ⟨y, h6, h7⟩ := typed_cd 9 t c hc _ h3
  have hx : x = (argV st c y).at := by
    unfold isStP at hst
    cases hu : P.underlying t with
    | none => rw [hu] at hst; simp only at hst; subst hst
              rcases h4 with ⟨z, rfl⟩ | ⟨fs, e⟩
              · simp only [argV, Bool.false_eq_true, if_false, V2.at]
                simp only [Vl.cells] at h6
                rw [← cl_at] at h6
                match hq : c.cl y, h6 with
                | [], h6 => cases h6
                | q :: r, h6 => simp only [List.map_cons, List.cons.injEq] at h6; rw [h6.1]; rfl
              · rw [hu] at e; cases e
    | some dd =>
      cases st with
      | true =>
        have hs : ∃ fs, P.underlying t = some (.struct fs) := by
          rw [hu] at hst
          cases dd <;> simp only at hst <;> first | exact ⟨_, hu⟩ | cases hst
        rcases h5 with ⟨ys, rfl⟩ | e
        · simp only [argV, if_true, V2.at, cl_at]
          rw [← h6]; rfl
        · exact absurd hs e
      | false =>
        rcases h4 with ⟨z, rfl⟩ | ⟨fs, e⟩
        · simp only [argV, Bool.false_eq_true, if_false, V2.at]
          simp only [Vl.cells] at h6
          rw [← cl_at] at h6
          match hq : c.cl y, h6 with
          | [], h6 => cases h6
          | q :: r, h6 => simp only [List.map_cons, List.cons.injEq] at h6; rw [h6.1]; rfl
        · rw [hu] at e hst; cases e; cases hst
  subst hx
  exact ⟨y, h1, h2, h7⟩
theorem rvs_nil {ι : Io} {h : Hp} : RVs ι h [] [] := ⟨rfl, by simp⟩
theorem rvs_cons {ι : Io} {h : Hp} {x : Vl} {v : Value} {xs : List Vl} {vs : List Value} (h1 : RV ι h x v) (h2 : RVs ι h xs vs) : RVs ι h (x :: xs) (v :: vs) := by
  refine ⟨by simp [h2.1], fun j y e => ?_⟩
  cases j with
  | zero => simp at e; subst e; exact ⟨v, rfl, h1⟩
  | succ j => simp at e; simpa using h2.2 j y e
theorem names_cons {x : Vl} {xs : List Vl} (h1 : namesV [x] = []) (h2 : namesV xs = []) : namesV (x :: xs) = [] := by
  simp only [namesV, List.flatMap_cons, List.flatMap_nil, List.append_nil] at h1 h2 ⊢
  rw [h1, h2]; rfl
/-- A law's call, by its printed function. -/
theorem law_inst {c : Cfg} (hk : CfgOk P c) {k : Nat} {i : Inst} (hi : InstOk (call c k) i) {x : i.sh.D} {y : DS FS.D i.os} (h : i.F x = some y) (hy : encS FS.enc i.os y = ([.a (.bool true)], []))
    {args : List V2} (ha : i.sh.enc x = (args, [])) {vals : Array Value} (hr : RVs (fun _ => none) (view w) (args.map V2.at) vals.toList) (hn : namesV (args.map V2.at) = []) :
    Calls P i.f vals w fun e w' => e = .returned (.bool true) ∧ Below w.heap.size w w' := by
  have := hi x y h
  rw [hy, ha] at this
  exact law_calls hk hr hn this
end
end Go.Proofs.Ytghdpmejgonjmaa.Am
