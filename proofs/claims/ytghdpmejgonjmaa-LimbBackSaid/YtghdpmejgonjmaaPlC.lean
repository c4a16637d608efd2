/- Plain reckoning: what is right and what is the same, by the document's reference; arguments' words. -/
import Derived.Test.YtghdpmejgonjmaaPlB3
import Derived.Test.YtghdpmejgonjmaaAmArg
import Derived.Test.YtghdpmejgonjmaaAw
set_option linter.unusedVariables false
set_option linter.unusedSimpArgs false
set_option maxRecDepth 10000
namespace Go.Proofs.Ytghdpmejgonjmaa.Am
open Go

theorem dg_of {l : List Int} (h : Wfd (.sl (.int .u32)) l) : Dg W l ∧ l.length ≤ 9223372036854775807 := by
  refine ⟨fun x hx => ?_, by have := h.1; unfold maxLen at this; omega⟩
  have := h.2 x hx
  simp only [Wfd, Lit.wf, IntKind.min, IntKind.max, IntKind.signed, IntKind.bits] at this
  simp at this
  unfold W
  omega
theorem right_ev (a0 : Bool) (a1 : List Int) (hl : a1.length ≤ 9223372036854775807) (hd : Dg W a1) : Rn (fun k => Fshuntref01_Right k a0 a1) (decide (Ri a0 a1)) := by
  refine Rn.up (f := fun k => Fshuntref01_Right k a0 a1) ?_
  show Rn (fun k => bshuntref01_Right k a0 a1) _
  unfold bshuntref01_Right
  have hlast := Cn.last hd
  rcases List.eq_nil_or_concat a1 with rfl | ⟨m, x, rfl⟩
  · have : (decide (Ri a0 [])) = !a0 := by cases a0 <;> simp [Ri, tl]
    rw [this]
    simp (config := { implicitDefEqProofs := false, maxSteps := 2000000 }) (disch := omega) only [ps, ↓reduceIte, reduceCtorEq, Int.reduceLT, Int.reduceLE, Int.reduceEq, Nat.reduceLT, Nat.reduceLeDiff, Nat.reduceEqDiff, Int.reduceNeg, eitherK]
    exact Rn.pure _
  · rw [List.concat_eq_append] at *
    have hget : (m ++ [x])[m.length]? = some x := by simp
    have hlen : (m ++ [x]).length = m.length + 1 := by simp
    have h1 : (((m.length + 1 : Nat) : Int) - 1) = (m.length : Int) := by omega
    have hlast' : tl (m ++ [x]) = m ++ [x] ↔ x ≠ 0 := by
      rw [hlast]
      constructor
      · rintro (e | ⟨m', x', e, h0⟩)
        · simp at e
        · obtain ⟨_, e2⟩ := List.append_inj' e rfl
          simp only [List.cons.injEq, and_true] at e2
          rwa [e2]
      · intro h0; exact .inr ⟨m, x, rfl, h0⟩
    by_cases h72 : m.length + 1 ≤ 72
    · have : (decide (Ri a0 (m ++ [x]))) = (x != 0) := by
        by_cases hx : x = 0
        · rw [decide_eq_false (show ¬ Ri a0 (m ++ [x]) from fun h => hlast'.1 h.2.1 hx)]; simp [hx]
        · rw [decide_eq_true (show Ri a0 (m ++ [x]) from ⟨by omega, hlast'.2 hx, by simp⟩)]; simp [hx]
      rw [this]
      simp (config := { implicitDefEqProofs := false, maxSteps := 2000000 }) (disch := omega) only [ps, ↓reduceIte, reduceCtorEq, Int.reduceLT, Int.reduceLE, Int.reduceEq, Nat.reduceLT, Nat.reduceLeDiff, Nat.reduceEqDiff, Int.reduceNeg, eitherK, hlen, h1, hget]
      exact Rn.pure _
    · have : (decide (Ri a0 (m ++ [x]))) = false := by rw [decide_eq_false_iff_not]; exact fun h => by have := h.1; omega
      rw [this]
      simp (config := { implicitDefEqProofs := false, maxSteps := 2000000 }) (disch := omega) only [ps, ↓reduceIte, reduceCtorEq, Int.reduceLT, Int.reduceLE, Int.reduceEq, Nat.reduceLT, Nat.reduceLeDiff, Nat.reduceEqDiff, Int.reduceNeg, eitherK, hlen]
      exact Rn.pure _
theorem same_loop (k : Nat) (a0 b0 : Bool) (a1 b1 : List Int) (hl : a1.length = b1.length) (hlen : a1.length ≤ 9223372036854775806) : ∀ (d i n : Nat), i + d = a1.length → d < n → a1.take i = b1.take i →
    ∃ r, Lshuntref01_Same_0 k n i a0 a1 b0 b1 = some r ∧ (match r with | .inl c => c.1 | .inr _ => true) = decide (a1 = b1) := by
  intro d
  induction d with
  | zero =>
    intro i n hi hn e
    obtain ⟨n, rfl⟩ : ∃ m, n = m + 1 := ⟨n - 1, by omega⟩
    rw [List.take_of_length_le (by omega), List.take_of_length_le (by omega)] at e
    refine ⟨.inr (a0, a1, b0, b1), ?_, by simp [e]⟩
    show Lshuntref01_Same_0s k (Lshuntref01_Same_0 k n) i a0 a1 b0 b1 = _
    unfold Lshuntref01_Same_0s
    simp (config := { implicitDefEqProofs := false, maxSteps := 2000000 }) (disch := omega) only [ps, ↓reduceIte, reduceCtorEq, Int.reduceLT, Int.reduceLE, Int.reduceEq, Nat.reduceLT, Nat.reduceLeDiff, Nat.reduceEqDiff, Int.reduceNeg, eitherK]
  | succ d ih =>
    intro i n hi hn e
    obtain ⟨n, rfl⟩ : ∃ m, n = m + 1 := ⟨n - 1, by omega⟩
    obtain ⟨x, hx⟩ := get_of (show i < a1.length by omega)
    obtain ⟨y, hy⟩ := get_of (show i < b1.length by omega)
    by_cases h : x = y
    · subst h
      obtain ⟨r, h2, h3⟩ := ih (i + 1) n (by omega) (by omega) (by rw [List.take_add_one, List.take_add_one, e, hx, hy])
      refine ⟨r, ?_, h3⟩
      show Lshuntref01_Same_0s k (Lshuntref01_Same_0 k n) i a0 a1 b0 b1 = _
      unfold Lshuntref01_Same_0s
      have h1 : ((i : Int) + 1) = ((i + 1 : Nat) : Int) := rfl
      simp (config := { implicitDefEqProofs := false, maxSteps := 2000000 }) (disch := omega) only [ps, ↓reduceIte, reduceCtorEq, Int.reduceLT, Int.reduceLE, Int.reduceEq, Nat.reduceLT, Nat.reduceLeDiff, Nat.reduceEqDiff, Int.reduceNeg, eitherK, hx, hy, h1, h2]
    · have : a1 ≠ b1 := by rintro rfl; rw [hx] at hy; cases hy; exact h rfl
      refine ⟨.inl (false, a0, a1, b0, b1), ?_, by simp [this]⟩
      show Lshuntref01_Same_0s k (Lshuntref01_Same_0 k n) i a0 a1 b0 b1 = _
      unfold Lshuntref01_Same_0s
      simp (config := { implicitDefEqProofs := false, maxSteps := 2000000 }) (disch := omega) only [ps, ↓reduceIte, reduceCtorEq, Int.reduceLT, Int.reduceLE, Int.reduceEq, Nat.reduceLT, Nat.reduceLeDiff, Nat.reduceEqDiff, Int.reduceNeg, eitherK, hx, hy, h]
theorem refSame_ev (a0 b0 : Bool) (a1 b1 : List Int) (hlen : a1.length ≤ 9223372036854775806) : Rn (fun k => Fshuntref01_Same k a0 a1 b0 b1) (decide (a0 = b0 ∧ a1 = b1)) := by
  refine Rn.eq (a1.length + 2) fun k hk => ?_
  obtain ⟨k, rfl⟩ : ∃ m, k = m + 1 := ⟨k - 1, by omega⟩
  show bshuntref01_Same k a0 a1 b0 b1 = _
  unfold bshuntref01_Same
  by_cases h0 : a0 = b0
  · subst h0
    by_cases h1 : a1.length = b1.length
    · obtain ⟨r, h2, h3⟩ := same_loop k a0 a0 a1 b1 h1 hlen a1.length 0 k (by omega) (by omega) rfl
      have h2' : Lshuntref01_Same_0 k k 0 a0 a1 a0 b1 = some r := h2
      have e : decide (a0 = a0 ∧ a1 = b1) = decide (a1 = b1) := by simp
      rw [e, ← h3]
      simp (config := { implicitDefEqProofs := false, maxSteps := 2000000 }) (disch := omega) only [ps, ↓reduceIte, reduceCtorEq, Int.reduceLT, Int.reduceLE, Int.reduceEq, Nat.reduceLT, Nat.reduceLeDiff, Nat.reduceEqDiff, Int.reduceNeg, eitherK, h2']
      cases r <;> rfl
    · have : a1 ≠ b1 := by rintro rfl; exact h1 rfl
      simp (config := { implicitDefEqProofs := false, maxSteps := 2000000 }) (disch := omega) only [ps, ↓reduceIte, reduceCtorEq, Int.reduceLT, Int.reduceLE, Int.reduceEq, Nat.reduceLT, Nat.reduceLeDiff, Nat.reduceEqDiff, Int.reduceNeg, eitherK, h1, this]
      simp [this]
  · have h0' : (a0 == b0) = false := by simpa using h0
    simp (config := { implicitDefEqProofs := false, maxSteps := 2000000 }) (disch := omega) only [ps, ↓reduceIte, reduceCtorEq, Int.reduceLT, Int.reduceLE, Int.reduceEq, Nat.reduceLT, Nat.reduceLeDiff, Nat.reduceEqDiff, Int.reduceNeg, eitherK, h0']
    simp [h0]
theorem same_ev (a0 b0 : Bool) (a1 b1 : List Int) (hlen : a1.length ≤ 9223372036854775806) : Rn (fun k => Fshuntlaw01_same k a0 a1 b0 b1) (decide (a0 = b0 ∧ a1 = b1)) :=
  Rn.up (f := fun k => Fshuntlaw01_same k a0 a1 b0 b1) (Rn.bind (refSame_ev a0 b0 a1 b1 hlen) (Rn.pure _))
theorem Rn.get {α : Type} {f : Nat → Option α} {r : α} (h : Rn f r) : ∃ k, f k = some r := by
  obtain ⟨K, h⟩ := h
  exact ⟨K, h K (Nat.le_refl _)⟩
end Go.Proofs.Ytghdpmejgonjmaa.Am
