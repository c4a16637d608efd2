/- The tables are the program's: by reckoning. -/
import Derived.Test.YtghdpmejgonjmaaAmRow
import Derived.KernelRfl
set_option linter.unusedVariables false
set_option linter.unusedSimpArgs false
namespace Go.Proofs.Ytghdpmejgonjmaa.Am
open Go

def zB : At → Value → Bool
  | .int k n, .int k' n' => decide (k = k') && decide (n = n')
  | .bool b, .bool b' => b == b'
  | .str s, .string s' => s.data.toList.isEmpty && s'.data.toList.isEmpty
  | .snil _ _, .slice none 0 0 => true
  | .nilp, .pointer none => true
  | _, _ => false
theorem zB_sound {h : Hp} {x : At} {v : Value} (e : zB x v = true) : RP h x v ∧ x.pr = true := by
  unfold zB at e
  split at e
  · simp only [Bool.and_eq_true, decide_eq_true_eq] at e
    obtain ⟨rfl, rfl⟩ := e
    exact ⟨.int _ _, rfl⟩
  · simp only [beq_iff_eq] at e; subst e; exact ⟨.bool _, rfl⟩
  · rename_i s s'
    simp only [Bool.and_eq_true, List.isEmpty_iff] at e
    obtain ⟨h1, h2⟩ := e
    obtain ⟨⟨l⟩⟩ := s
    obtain ⟨⟨l'⟩⟩ := s'
    simp only at h1 h2
    subst h1 h2
    exact ⟨.str _, rfl⟩
  · exact ⟨.snil _ _, rfl⟩
  · exact ⟨.nilp, rfl⟩
  · cases e

def zBs : List At → List Value → Bool
  | [], [] => true
  | x :: xs, v :: vs => zB x v && zBs xs vs
  | _, _ => false
theorem zBs_sound {h : Hp} : ∀ {xs : List At} {vs : List Value}, zBs xs vs = true → xs.length = vs.length ∧ (∀ (j : Nat) (x : At), xs[j]? = some x → ∃ u, vs[j]? = some u ∧ RP h x u) ∧ ∀ x ∈ xs, x.pr = true := by
  intro xs
  induction xs with
  | nil => intro vs e; cases vs with
    | nil => exact ⟨rfl, by simp, by simp⟩
    | cons v vs => cases e
  | cons x xs ih =>
    intro vs e
    cases vs with
    | nil => cases e
    | cons v vs =>
      simp only [zBs, Bool.and_eq_true] at e
      obtain ⟨h1, h2⟩ := zB_sound (h := h) e.1
      obtain ⟨i1, i2, i3⟩ := ih e.2
      refine ⟨by simp [i1], fun j y hj => ?_, fun y hy => ?_⟩
      · cases j with
        | zero => simp at hj; subst hj; exact ⟨v, rfl, h1⟩
        | succ j => simp at hj; simpa using i2 j y hj
      · rcases List.mem_cons.1 hy with rfl | hy
        · exact h2
        · exact i3 y hy

def fieldsB (P : Program) : List (Nat × Nat) → List TypeId → List Field → Bool
  | [], [], [] => true
  | p :: ps, t :: ts, f :: fs => f.offset == p.1 && f.type == t && (match P.info? f.type with | some ti => ti.size == p.2 | none => false) && fieldsB P ps ts fs
  | _, _, _ => false
theorem fieldsB_sound {P : Program} : ∀ {ps : List (Nat × Nat)} {ts : List TypeId} {fs : List Field}, fieldsB P ps ts fs = true →
    ps.length = fs.length ∧ (∀ (j : Nat) (p : Nat × Nat), ps[j]? = some p → ∃ f, fs[j]? = some f ∧ f.offset = p.1 ∧ ∃ ti, P.info? f.type = some ti ∧ ti.size = p.2) ∧ (fs.map fun f => f.type) = ts := by
  intro ps
  induction ps with
  | nil => intro ts fs e; cases ts <;> cases fs <;> first | exact ⟨rfl, by simp, rfl⟩ | cases e
  | cons p ps ih =>
    intro ts fs e
    cases ts with
    | nil => cases e
    | cons t ts =>
      cases fs with
      | nil => cases e
      | cons f fs =>
        simp only [fieldsB, Bool.and_eq_true, beq_iff_eq] at e
        obtain ⟨⟨⟨e1, e2⟩, e3⟩, e4⟩ := e
        obtain ⟨i1, i2, i3⟩ := ih e4
        refine ⟨by simp [i1], fun j q hj => ?_, by simp [e2, i3]⟩
        cases j with
        | zero =>
          simp at hj
          subst hj
          refine ⟨f, rfl, e1, ?_⟩
          split at e3
          · rename_i ti hti
            exact ⟨ti, hti, by simpa using e3⟩
          · cases e3
        | succ j => simp at hj; simpa using i2 j q hj

def tdB (P : Program) : TD → TypeDesc → Bool
  | .int k, .int k' => decide (k = k')
  | .bool, .bool => true
  | .str, .string => true
  | .ptr, .pointer _ => true
  | .sl e, .slice e' => e == e'
  | .st ps ts, .struct F => fieldsB P ps ts F.toList
  | .arr n e, .array n' e' => n == n' && e == e'
  | .oth, _ => true
  | _, _ => false
theorem tdB_sound {P : Program} {d : TD} {e : TypeDesc} (h : tdB P d e = true) : TDOk P d e := by
  unfold tdB at h
  split at h
  · simp only [decide_eq_true_eq] at h; subst h; exact rfl
  · exact rfl
  · exact rfl
  · exact ⟨_, rfl⟩
  · simp only [beq_iff_eq] at h; subst h; exact rfl
  · rename_i ps ts F
    obtain ⟨h1, h2, h3⟩ := fieldsB_sound h
    refine ⟨F, rfl, by simpa using h1, fun j p hj => ?_, h3⟩
    obtain ⟨f, q1, q2⟩ := h2 j p hj
    exact ⟨f, by simpa using q1, q2⟩
  · simp only [Bool.and_eq_true, beq_iff_eq] at h; obtain ⟨rfl, rfl⟩ := h; exact rfl
  · trivial
  · cases h

def tokB (P : Program) (t : TypeId) (i : TI) : Bool :=
  (match P.info? t with
    | some ti => ti.size == i.size && ti.bytes == i.bytes && (i.zero.length != i.size || (match ti.zero with | some z => z.cells.size == i.size && zBs i.zero z.cells.toList | none => false))
    | none => false) &&
  (match P.underlying t with
    | some d => tdB P i.d d && (isAggD d == i.agg)
    | none => false)
theorem tok_of {P : Program} {t : TypeId} {i : TI} (h : tokB P t i = true) : TOk P t i := by
  unfold tokB at h
  rw [Bool.and_eq_true] at h
  obtain ⟨h1, h2⟩ := h
  split at h1
  · rename_i ti hti
    simp only [Bool.and_eq_true, beq_iff_eq, Bool.or_eq_true, bne_iff_ne] at h1
    obtain ⟨⟨a1, a2⟩, a3⟩ := h1
    refine ⟨⟨ti, hti, a1, a2⟩, ?_, fun hz => ?_⟩
    · split at h2
      · rename_i d hd
        simp only [Bool.and_eq_true, beq_iff_eq] at h2
        exact ⟨d, hd, tdB_sound h2.1, h2.2⟩
      · cases h2
    · rcases a3 with a3 | a3
      · exact absurd hz a3
      · split at a3
        · rename_i z hzz
          simp only [Bool.and_eq_true, beq_iff_eq] at a3
          obtain ⟨b1, b2⟩ := a3
          refine ⟨ti, z, hti, hzz, b1, fun h j x hj => ?_, (zBs_sound (h := fun _ => none) b2).2.2⟩
          obtain ⟨u, g1, g2⟩ := (zBs_sound (h := h) b2).2.1 j x hj
          exact ⟨u, by simpa using g1, g2⟩
        · cases a3
  · cases h1

theorem names_ok {P : Program} (h : (P.funcs.toList.all fun fn => !(fn.name == "runtime.NumGoroutine")) = true) {f : FuncId} {fn : Func} (e : P.funcs[f]? = some fn) : P.funcs[f]? = some fn ∧ (fn.name == "runtime.NumGoroutine") = false := by
  refine ⟨e, ?_⟩
  rw [List.all_eq_true] at h
  have := h fn (by simpa using Array.mem_of_getElem? e)
  simpa using this
end Go.Proofs.Ytghdpmejgonjmaa.Am
