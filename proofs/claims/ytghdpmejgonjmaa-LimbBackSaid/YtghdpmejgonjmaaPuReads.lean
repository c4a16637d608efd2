/- Parse is the document's: the plain statement. -/
import Derived.Test.YtghdpmejgonjmaaPlP3
set_option linter.unusedVariables false
set_option linter.unusedSimpArgs false
set_option maxRecDepth 10000
namespace Go.Proofs.Ytghdpmejgonjmaa.Am
open Go
theorem ans_len (s : Bool) (l : List Int) : (ans s l).2.1.length ≤ 72 := by
  unfold ans
  split
  · assumption
  · simp
theorem Pres.len {l : List Int} {r : Bool × List Int × Int} (h : Pres l r) : r.2.1.length ≤ 72 := by
  by_cases hb : 1024 < l.length
  · rw [h.1 hb]; simp
  · by_cases hg : Pgd l
    · obtain ⟨s, w, _, rfl⟩ := h.2.2 (by omega) hg
      exact ans_len s w
    · rw [h.2.1 (by omega) hg]; simp
theorem pure_LimbReads (s : ByteArray) (ws : Wfd .str s) : ∃ k, Fshuntlaw01_LimbReads k s = some true := by
  have hs : s.size ≤ 9223372036854775807 := by simpa [Wfd, maxLen] using ws
  obtain ⟨r, p1, p2⟩ := limbParse_ev s hs
  obtain ⟨r', q1, q2⟩ := rParse_ev s hs
  have := p2.ext q2
  subst this
  have hl := p2.len
  refine Rn.get (Rn.up (f := fun k => Fshuntlaw01_LimbReads k s) ?_)
  show Rn (fun k => bshuntlaw01_LimbReads k s) _
  unfold bshuntlaw01_LimbReads
  refine Rn.bind awake_ev ?_
  (first | (refine Rn.t ?hc ?_; case hc => simp (config := { implicitDefEqProofs := false, maxSteps := 2000000 }) (disch := omega) only [ps, ↓reduceIte, reduceCtorEq, Int.reduceLT, Int.reduceLE, Int.reduceEq, Nat.reduceLT, Nat.reduceLeDiff, Nat.reduceEqDiff, Int.reduceNeg, eitherK]) | (refine Rn.f ?hc ?_; case hc => simp (config := { implicitDefEqProofs := false, maxSteps := 2000000 }) (disch := omega) only [ps, ↓reduceIte, reduceCtorEq, Int.reduceLT, Int.reduceLE, Int.reduceEq, Nat.reduceLT, Nat.reduceLeDiff, Nat.reduceEqDiff, Int.reduceNeg, eitherK]))
  refine Rn.bind p1 (Rn.bind q1 (Rn.bind (same_ev _ _ _ _ (by omega)) ?_))
  (first | (refine Rn.t ?hc ?_; case hc => simp (config := { implicitDefEqProofs := false, maxSteps := 2000000 }) (disch := omega) only [ps, ↓reduceIte, reduceCtorEq, Int.reduceLT, Int.reduceLE, Int.reduceEq, Nat.reduceLT, Nat.reduceLeDiff, Nat.reduceEqDiff, Int.reduceNeg, eitherK, decide_true]) | (refine Rn.f ?hc ?_; case hc => simp (config := { implicitDefEqProofs := false, maxSteps := 2000000 }) (disch := omega) only [ps, ↓reduceIte, reduceCtorEq, Int.reduceLT, Int.reduceLE, Int.reduceEq, Nat.reduceLT, Nat.reduceLeDiff, Nat.reduceEqDiff, Int.reduceNeg, eitherK, decide_true]))
  rw [show (r.2.2 == r.2.2) = true from beq_self_eq_true _]
  exact Rn.pure _
end Go.Proofs.Ytghdpmejgonjmaa.Am
