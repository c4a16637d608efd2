/- Plain reckoning: numbers lent and looked at again; the reference's calls of two numbers. -/
import Derived.Test.YtghdpmejgonjmaaPlR3
set_option linter.unusedVariables false
set_option linter.unusedSimpArgs false
set_option maxRecDepth 10000
namespace Go.Proofs.Ytghdpmejgonjmaa.Am
open Go

theorem long_ev (a0 : Bool) (a1 : List Int) : Rn (fun k => Fshuntlaw01_long k a0 a1) (decide ((80 : Int) < a1.length)) :=
  Rn.up (f := fun k => Fshuntlaw01_long k a0 a1) (Rn.pure _)
/-- The mark behind a number that is lent. -/
abbrev mk (a1 : List Int) : List Int := a1 ++ [11259375]
theorem lent_ev (a0 : Bool) (a1 : List Int) (hl : a1.length ≤ 80) : Rn (fun k => Fshuntlaw01_lent k a0 a1) (a0, a1.length, mk a1) := by
  refine Rn.up (f := fun k => Fshuntlaw01_lent k a0 a1) ?_
  show Rn (fun k => bshuntlaw01_lent k a0 a1) _
  unfold bshuntlaw01_lent
  have h1 : (List.take a1.length a1 ++ [(11259375 : Int)]).length = a1.length + 1 := by simp
  simp (config := { implicitDefEqProofs := false, maxSteps := 2000000 }) (disch := omega) only [ps, ↓reduceIte, reduceCtorEq, Int.reduceLT, Int.reduceLE, Int.reduceEq, Nat.reduceLT, Nat.reduceLeDiff, Nat.reduceEqDiff, Int.reduceNeg, eitherK, List.take_length, List.take_succ_cons]
  have h2 : (mk a1).length = a1.length + 1 := by simp
  refine Rn.const ?_
  rw [if_pos (by rw [h2]; omega)]
theorem whole1_ev (a0 : Bool) (a1 : List Int) (hl : a1.length ≤ 80) : Rn (fun k => Fshuntlaw01_whole_aoq k a0 a1.length a0 a1 (mk a1)) (true, mk a1) := by
  refine Rn.up (f := fun k => Fshuntlaw01_whole_aoq k a0 a1.length a0 a1 (mk a1)) ?_
  show Rn (fun k => bshuntlaw01_whole_aoq k a0 a1.length a0 a1 (mk a1)) _
  unfold bshuntlaw01_whole_aoq
  have h2 : (mk a1).length = a1.length + 1 := by simp
  have h3 : List.take a1.length (mk a1) = a1 := List.take_left
  have h4 : (mk a1)[a1.length]? = some 11259375 := by simp
  have h5 : ((a1.length : Int) + 1) = ((a1.length + 1 : Nat) : Int) := rfl
  (first | (refine Rn.t ?hc ?_; case hc => simp (config := { implicitDefEqProofs := false, maxSteps := 2000000 }) (disch := omega) only [ps, ↓reduceIte, reduceCtorEq, Int.reduceLT, Int.reduceLE, Int.reduceEq, Nat.reduceLT, Nat.reduceLeDiff, Nat.reduceEqDiff, Int.reduceNeg, eitherK, h2]) | (refine Rn.f ?hc ?_; case hc => simp (config := { implicitDefEqProofs := false, maxSteps := 2000000 }) (disch := omega) only [ps, ↓reduceIte, reduceCtorEq, Int.reduceLT, Int.reduceLE, Int.reduceEq, Nat.reduceLT, Nat.reduceLeDiff, Nat.reduceEqDiff, Int.reduceNeg, eitherK, h2]))
  rw [h3]
  refine Rn.bind (same_ev a0 a0 a1 a1 (by omega)) ?_
  (first | (refine Rn.t ?hc ?_; case hc => simp (config := { implicitDefEqProofs := false, maxSteps := 2000000 }) (disch := omega) only [ps, ↓reduceIte, reduceCtorEq, Int.reduceLT, Int.reduceLE, Int.reduceEq, Nat.reduceLT, Nat.reduceLeDiff, Nat.reduceEqDiff, Int.reduceNeg, eitherK, decide_true]) | (refine Rn.f ?hc ?_; case hc => simp (config := { implicitDefEqProofs := false, maxSteps := 2000000 }) (disch := omega) only [ps, ↓reduceIte, reduceCtorEq, Int.reduceLT, Int.reduceLE, Int.reduceEq, Nat.reduceLT, Nat.reduceLeDiff, Nat.reduceEqDiff, Int.reduceNeg, eitherK, decide_true]))
  (first | (refine Rn.t ?hc ?_; case hc => simp (config := { implicitDefEqProofs := false, maxSteps := 2000000 }) (disch := omega) only [ps, ↓reduceIte, reduceCtorEq, Int.reduceLT, Int.reduceLE, Int.reduceEq, Nat.reduceLT, Nat.reduceLeDiff, Nat.reduceEqDiff, Int.reduceNeg, eitherK, h2, h5]) | (refine Rn.f ?hc ?_; case hc => simp (config := { implicitDefEqProofs := false, maxSteps := 2000000 }) (disch := omega) only [ps, ↓reduceIte, reduceCtorEq, Int.reduceLT, Int.reduceLE, Int.reduceEq, Nat.reduceLT, Nat.reduceLeDiff, Nat.reduceEqDiff, Int.reduceNeg, eitherK, h2, h5]))
  (first | (refine Rn.t ?hc ?_; case hc => simp (config := { implicitDefEqProofs := false, maxSteps := 2000000 }) (disch := omega) only [ps, ↓reduceIte, reduceCtorEq, Int.reduceLT, Int.reduceLE, Int.reduceEq, Nat.reduceLT, Nat.reduceLeDiff, Nat.reduceEqDiff, Int.reduceNeg, eitherK, h5]) | (refine Rn.f ?hc ?_; case hc => simp (config := { implicitDefEqProofs := false, maxSteps := 2000000 }) (disch := omega) only [ps, ↓reduceIte, reduceCtorEq, Int.reduceLT, Int.reduceLE, Int.reduceEq, Nat.reduceLT, Nat.reduceLeDiff, Nat.reduceEqDiff, Int.reduceNeg, eitherK, h5]))
  refine Rn.at (x := 11259375) (by rw [Int.toNat_natCast, Nat.zero_add]; exact h4) ?_
  exact Rn.pure _
theorem whole2_ev (a0 : Bool) (a1 : List Int) (hl : a1.length ≤ 80) : Rn (fun k => Fshuntlaw01_whole_arr k a0 a1.length a0 a1 (mk a1)) (true, mk a1) := by
  refine Rn.up (f := fun k => Fshuntlaw01_whole_arr k a0 a1.length a0 a1 (mk a1)) ?_
  show Rn (fun k => bshuntlaw01_whole_arr k a0 a1.length a0 a1 (mk a1)) _
  unfold bshuntlaw01_whole_arr
  have h2 : (mk a1).length = a1.length + 1 := by simp
  have h3 : List.take a1.length (mk a1) = a1 := List.take_left
  have h4 : (mk a1)[a1.length]? = some 11259375 := by simp
  have h5 : ((a1.length : Int) + 1) = ((a1.length + 1 : Nat) : Int) := rfl
  (first | (refine Rn.t ?hc ?_; case hc => simp (config := { implicitDefEqProofs := false, maxSteps := 2000000 }) (disch := omega) only [ps, ↓reduceIte, reduceCtorEq, Int.reduceLT, Int.reduceLE, Int.reduceEq, Nat.reduceLT, Nat.reduceLeDiff, Nat.reduceEqDiff, Int.reduceNeg, eitherK, h2]) | (refine Rn.f ?hc ?_; case hc => simp (config := { implicitDefEqProofs := false, maxSteps := 2000000 }) (disch := omega) only [ps, ↓reduceIte, reduceCtorEq, Int.reduceLT, Int.reduceLE, Int.reduceEq, Nat.reduceLT, Nat.reduceLeDiff, Nat.reduceEqDiff, Int.reduceNeg, eitherK, h2]))
  rw [h3]
  refine Rn.bind (same_ev a0 a0 a1 a1 (by omega)) ?_
  (first | (refine Rn.t ?hc ?_; case hc => simp (config := { implicitDefEqProofs := false, maxSteps := 2000000 }) (disch := omega) only [ps, ↓reduceIte, reduceCtorEq, Int.reduceLT, Int.reduceLE, Int.reduceEq, Nat.reduceLT, Nat.reduceLeDiff, Nat.reduceEqDiff, Int.reduceNeg, eitherK, decide_true]) | (refine Rn.f ?hc ?_; case hc => simp (config := { implicitDefEqProofs := false, maxSteps := 2000000 }) (disch := omega) only [ps, ↓reduceIte, reduceCtorEq, Int.reduceLT, Int.reduceLE, Int.reduceEq, Nat.reduceLT, Nat.reduceLeDiff, Nat.reduceEqDiff, Int.reduceNeg, eitherK, decide_true]))
  (first | (refine Rn.t ?hc ?_; case hc => simp (config := { implicitDefEqProofs := false, maxSteps := 2000000 }) (disch := omega) only [ps, ↓reduceIte, reduceCtorEq, Int.reduceLT, Int.reduceLE, Int.reduceEq, Nat.reduceLT, Nat.reduceLeDiff, Nat.reduceEqDiff, Int.reduceNeg, eitherK, h2, h5]) | (refine Rn.f ?hc ?_; case hc => simp (config := { implicitDefEqProofs := false, maxSteps := 2000000 }) (disch := omega) only [ps, ↓reduceIte, reduceCtorEq, Int.reduceLT, Int.reduceLE, Int.reduceEq, Nat.reduceLT, Nat.reduceLeDiff, Nat.reduceEqDiff, Int.reduceNeg, eitherK, h2, h5]))
  (first | (refine Rn.t ?hc ?_; case hc => simp (config := { implicitDefEqProofs := false, maxSteps := 2000000 }) (disch := omega) only [ps, ↓reduceIte, reduceCtorEq, Int.reduceLT, Int.reduceLE, Int.reduceEq, Nat.reduceLT, Nat.reduceLeDiff, Nat.reduceEqDiff, Int.reduceNeg, eitherK, h5]) | (refine Rn.f ?hc ?_; case hc => simp (config := { implicitDefEqProofs := false, maxSteps := 2000000 }) (disch := omega) only [ps, ↓reduceIte, reduceCtorEq, Int.reduceLT, Int.reduceLE, Int.reduceEq, Nat.reduceLT, Nat.reduceLeDiff, Nat.reduceEqDiff, Int.reduceNeg, eitherK, h5]))
  refine Rn.at (x := 11259375) (by rw [Int.toNat_natCast, Nat.zero_add]; exact h4) ?_
  exact Rn.pure _

section
variable {a0 b0 : Bool} {a1 b1 : List Int} (la : a1.length ≤ 9223372036854775807) (lb : b1.length ≤ 9223372036854775807) (da : Dg W a1) (db : Dg W b1)
include la lb da db
theorem two_no (op : Int) (h : ¬ (Ri a0 a1 ∧ Ri b0 b1)) : Rn (fun k => Fshuntref01_Two k op a0 a1 b0 b1) (false, [], 10) := by
  refine Rn.up (f := fun k => Fshuntref01_Two k op a0 a1 b0 b1) ?_
  show Rn (fun k => bshuntref01_Two k op a0 a1 b0 b1) _
  unfold bshuntref01_Two
  refine Rn.bind (right_ev a0 a1 la da) ?_
  by_cases ha : Ri a0 a1
  · (first | (refine Rn.t ?hc ?_; case hc => simp (config := { implicitDefEqProofs := false, maxSteps := 2000000 }) (disch := omega) only [ps, ↓reduceIte, reduceCtorEq, Int.reduceLT, Int.reduceLE, Int.reduceEq, Nat.reduceLT, Nat.reduceLeDiff, Nat.reduceEqDiff, Int.reduceNeg, eitherK, ha, decide_true]) | (refine Rn.f ?hc ?_; case hc => simp (config := { implicitDefEqProofs := false, maxSteps := 2000000 }) (disch := omega) only [ps, ↓reduceIte, reduceCtorEq, Int.reduceLT, Int.reduceLE, Int.reduceEq, Nat.reduceLT, Nat.reduceLeDiff, Nat.reduceEqDiff, Int.reduceNeg, eitherK, ha, decide_true]))
    refine Rn.bind (right_ev b0 b1 lb db) ?_
    have hb : ¬ Ri b0 b1 := fun hb => h ⟨ha, hb⟩
    (first | (refine Rn.t ?hc ?_; case hc => simp (config := { implicitDefEqProofs := false, maxSteps := 2000000 }) (disch := omega) only [ps, ↓reduceIte, reduceCtorEq, Int.reduceLT, Int.reduceLE, Int.reduceEq, Nat.reduceLT, Nat.reduceLeDiff, Nat.reduceEqDiff, Int.reduceNeg, eitherK, hb, decide_false]) | (refine Rn.f ?hc ?_; case hc => simp (config := { implicitDefEqProofs := false, maxSteps := 2000000 }) (disch := omega) only [ps, ↓reduceIte, reduceCtorEq, Int.reduceLT, Int.reduceLE, Int.reduceEq, Nat.reduceLT, Nat.reduceLeDiff, Nat.reduceEqDiff, Int.reduceNeg, eitherK, hb, decide_false]))
    exact Rn.pure _
  · (first | (refine Rn.t ?hc ?_; case hc => simp (config := { implicitDefEqProofs := false, maxSteps := 2000000 }) (disch := omega) only [ps, ↓reduceIte, reduceCtorEq, Int.reduceLT, Int.reduceLE, Int.reduceEq, Nat.reduceLT, Nat.reduceLeDiff, Nat.reduceEqDiff, Int.reduceNeg, eitherK, ha, decide_false]) | (refine Rn.f ?hc ?_; case hc => simp (config := { implicitDefEqProofs := false, maxSteps := 2000000 }) (disch := omega) only [ps, ↓reduceIte, reduceCtorEq, Int.reduceLT, Int.reduceLE, Int.reduceEq, Nat.reduceLT, Nat.reduceLeDiff, Nat.reduceEqDiff, Int.reduceNeg, eitherK, ha, decide_false]))
    exact Rn.pure _
theorem rcmp_no (h : ¬ (Ri a0 a1 ∧ Ri b0 b1)) : Rn (fun k => Fshuntref01_Cmp k a0 a1 b0 b1) (0, 10) := by
  refine Rn.up (f := fun k => Fshuntref01_Cmp k a0 a1 b0 b1) ?_
  show Rn (fun k => bshuntref01_Cmp k a0 a1 b0 b1) _
  unfold bshuntref01_Cmp
  refine Rn.bind (right_ev a0 a1 la da) ?_
  by_cases ha : Ri a0 a1
  · (first | (refine Rn.t ?hc ?_; case hc => simp (config := { implicitDefEqProofs := false, maxSteps := 2000000 }) (disch := omega) only [ps, ↓reduceIte, reduceCtorEq, Int.reduceLT, Int.reduceLE, Int.reduceEq, Nat.reduceLT, Nat.reduceLeDiff, Nat.reduceEqDiff, Int.reduceNeg, eitherK, ha, decide_true]) | (refine Rn.f ?hc ?_; case hc => simp (config := { implicitDefEqProofs := false, maxSteps := 2000000 }) (disch := omega) only [ps, ↓reduceIte, reduceCtorEq, Int.reduceLT, Int.reduceLE, Int.reduceEq, Nat.reduceLT, Nat.reduceLeDiff, Nat.reduceEqDiff, Int.reduceNeg, eitherK, ha, decide_true]))
    refine Rn.bind (right_ev b0 b1 lb db) ?_
    have hb : ¬ Ri b0 b1 := fun hb => h ⟨ha, hb⟩
    (first | (refine Rn.t ?hc ?_; case hc => simp (config := { implicitDefEqProofs := false, maxSteps := 2000000 }) (disch := omega) only [ps, ↓reduceIte, reduceCtorEq, Int.reduceLT, Int.reduceLE, Int.reduceEq, Nat.reduceLT, Nat.reduceLeDiff, Nat.reduceEqDiff, Int.reduceNeg, eitherK, hb, decide_false]) | (refine Rn.f ?hc ?_; case hc => simp (config := { implicitDefEqProofs := false, maxSteps := 2000000 }) (disch := omega) only [ps, ↓reduceIte, reduceCtorEq, Int.reduceLT, Int.reduceLE, Int.reduceEq, Nat.reduceLT, Nat.reduceLeDiff, Nat.reduceEqDiff, Int.reduceNeg, eitherK, hb, decide_false]))
    exact Rn.pure _
  · (first | (refine Rn.t ?hc ?_; case hc => simp (config := { implicitDefEqProofs := false, maxSteps := 2000000 }) (disch := omega) only [ps, ↓reduceIte, reduceCtorEq, Int.reduceLT, Int.reduceLE, Int.reduceEq, Nat.reduceLT, Nat.reduceLeDiff, Nat.reduceEqDiff, Int.reduceNeg, eitherK, ha, decide_false]) | (refine Rn.f ?hc ?_; case hc => simp (config := { implicitDefEqProofs := false, maxSteps := 2000000 }) (disch := omega) only [ps, ↓reduceIte, reduceCtorEq, Int.reduceLT, Int.reduceLE, Int.reduceEq, Nat.reduceLT, Nat.reduceLeDiff, Nat.reduceEqDiff, Int.reduceNeg, eitherK, ha, decide_false]))
    exact Rn.pure _
theorem two_add (ha : Ri a0 a1) (hb : Ri b0 b1) : ∃ s m, Rn (fun k => Fshuntref01_Two k 43 a0 a1 b0 b1) (ans s m) ∧ Nm W s m (Zv W a0 a1 + Zv W b0 b1) := by
  have k1 := ha.1
  have k2 := hb.1
  obtain ⟨l1, p1, p2, p3⟩ := rTake_ev a0 a1 (by omega) (ha.nm da)
  obtain ⟨l2, q1, q2, q3⟩ := rTake_ev b0 b1 (by omega) (hb.nm db)
  obtain ⟨s, l, r1, r2, r3⟩ := Plus_ev a0 b0 l1 l2 p2 q2 (by omega) (by omega)
  obtain ⟨m, t1, t2, t3⟩ := told_ev s l (by omega) r2
  refine ⟨s, m, Rn.up (f := fun k => Fshuntref01_Two k 43 a0 a1 b0 b1) ?_, t2⟩
  show Rn (fun k => bshuntref01_Two k 43 a0 a1 b0 b1) _
  unfold bshuntref01_Two
  refine Rn.bind (right_ev a0 a1 la da) ?_
  (first | (refine Rn.t ?hc ?_; case hc => simp (config := { implicitDefEqProofs := false, maxSteps := 2000000 }) (disch := omega) only [ps, ↓reduceIte, reduceCtorEq, Int.reduceLT, Int.reduceLE, Int.reduceEq, Nat.reduceLT, Nat.reduceLeDiff, Nat.reduceEqDiff, Int.reduceNeg, eitherK, ha, decide_true]) | (refine Rn.f ?hc ?_; case hc => simp (config := { implicitDefEqProofs := false, maxSteps := 2000000 }) (disch := omega) only [ps, ↓reduceIte, reduceCtorEq, Int.reduceLT, Int.reduceLE, Int.reduceEq, Nat.reduceLT, Nat.reduceLeDiff, Nat.reduceEqDiff, Int.reduceNeg, eitherK, ha, decide_true]))
  refine Rn.bind (right_ev b0 b1 lb db) ?_
  (first | (refine Rn.t ?hc ?_; case hc => simp (config := { implicitDefEqProofs := false, maxSteps := 2000000 }) (disch := omega) only [ps, ↓reduceIte, reduceCtorEq, Int.reduceLT, Int.reduceLE, Int.reduceEq, Nat.reduceLT, Nat.reduceLeDiff, Nat.reduceEqDiff, Int.reduceNeg, eitherK, hb, decide_true]) | (refine Rn.f ?hc ?_; case hc => simp (config := { implicitDefEqProofs := false, maxSteps := 2000000 }) (disch := omega) only [ps, ↓reduceIte, reduceCtorEq, Int.reduceLT, Int.reduceLE, Int.reduceEq, Nat.reduceLT, Nat.reduceLeDiff, Nat.reduceEqDiff, Int.reduceNeg, eitherK, hb, decide_true]))
  refine Rn.bind p1 (Rn.bind q1 ?_)
  (first | (refine Rn.t ?hc ?_; case hc => simp (config := { implicitDefEqProofs := false, maxSteps := 2000000 }) (disch := omega) only [ps, ↓reduceIte, reduceCtorEq, Int.reduceLT, Int.reduceLE, Int.reduceEq, Nat.reduceLT, Nat.reduceLeDiff, Nat.reduceEqDiff, Int.reduceNeg, eitherK]) | (refine Rn.f ?hc ?_; case hc => simp (config := { implicitDefEqProofs := false, maxSteps := 2000000 }) (disch := omega) only [ps, ↓reduceIte, reduceCtorEq, Int.reduceLT, Int.reduceLE, Int.reduceEq, Nat.reduceLT, Nat.reduceLeDiff, Nat.reduceEqDiff, Int.reduceNeg, eitherK]))
  exact Rn.bind r1 (Rn.bind t1 (Rn.pure _))
theorem two_sub (ha : Ri a0 a1) (hb : Ri b0 b1) : ∃ s m, Rn (fun k => Fshuntref01_Two k 45 a0 a1 b0 b1) (ans s m) ∧ Nm W s m (Zv W a0 a1 - Zv W b0 b1) := by
  have k1 := ha.1
  have k2 := hb.1
  obtain ⟨l1, p1, p2, p3⟩ := rTake_ev a0 a1 (by omega) (ha.nm da)
  obtain ⟨l2, q1, q2, q3⟩ := rTake_ev b0 b1 (by omega) (hb.nm db)
  obtain ⟨s, l, r1, r2, r3⟩ := Less_ev a0 b0 l1 l2 p2 q2 (by omega) (by omega)
  obtain ⟨m, t1, t2, t3⟩ := told_ev s l (by omega) r2
  refine ⟨s, m, Rn.up (f := fun k => Fshuntref01_Two k 45 a0 a1 b0 b1) ?_, t2⟩
  show Rn (fun k => bshuntref01_Two k 45 a0 a1 b0 b1) _
  unfold bshuntref01_Two
  refine Rn.bind (right_ev a0 a1 la da) ?_
  (first | (refine Rn.t ?hc ?_; case hc => simp (config := { implicitDefEqProofs := false, maxSteps := 2000000 }) (disch := omega) only [ps, ↓reduceIte, reduceCtorEq, Int.reduceLT, Int.reduceLE, Int.reduceEq, Nat.reduceLT, Nat.reduceLeDiff, Nat.reduceEqDiff, Int.reduceNeg, eitherK, ha, decide_true]) | (refine Rn.f ?hc ?_; case hc => simp (config := { implicitDefEqProofs := false, maxSteps := 2000000 }) (disch := omega) only [ps, ↓reduceIte, reduceCtorEq, Int.reduceLT, Int.reduceLE, Int.reduceEq, Nat.reduceLT, Nat.reduceLeDiff, Nat.reduceEqDiff, Int.reduceNeg, eitherK, ha, decide_true]))
  refine Rn.bind (right_ev b0 b1 lb db) ?_
  (first | (refine Rn.t ?hc ?_; case hc => simp (config := { implicitDefEqProofs := false, maxSteps := 2000000 }) (disch := omega) only [ps, ↓reduceIte, reduceCtorEq, Int.reduceLT, Int.reduceLE, Int.reduceEq, Nat.reduceLT, Nat.reduceLeDiff, Nat.reduceEqDiff, Int.reduceNeg, eitherK, hb, decide_true]) | (refine Rn.f ?hc ?_; case hc => simp (config := { implicitDefEqProofs := false, maxSteps := 2000000 }) (disch := omega) only [ps, ↓reduceIte, reduceCtorEq, Int.reduceLT, Int.reduceLE, Int.reduceEq, Nat.reduceLT, Nat.reduceLeDiff, Nat.reduceEqDiff, Int.reduceNeg, eitherK, hb, decide_true]))
  refine Rn.bind p1 (Rn.bind q1 ?_)
  (first | (refine Rn.t ?hc ?_; case hc => simp (config := { implicitDefEqProofs := false, maxSteps := 2000000 }) (disch := omega) only [ps, ↓reduceIte, reduceCtorEq, Int.reduceLT, Int.reduceLE, Int.reduceEq, Nat.reduceLT, Nat.reduceLeDiff, Nat.reduceEqDiff, Int.reduceNeg, eitherK]) | (refine Rn.f ?hc ?_; case hc => simp (config := { implicitDefEqProofs := false, maxSteps := 2000000 }) (disch := omega) only [ps, ↓reduceIte, reduceCtorEq, Int.reduceLT, Int.reduceLE, Int.reduceEq, Nat.reduceLT, Nat.reduceLeDiff, Nat.reduceEqDiff, Int.reduceNeg, eitherK]))
  (first | (refine Rn.t ?hc ?_; case hc => simp (config := { implicitDefEqProofs := false, maxSteps := 2000000 }) (disch := omega) only [ps, ↓reduceIte, reduceCtorEq, Int.reduceLT, Int.reduceLE, Int.reduceEq, Nat.reduceLT, Nat.reduceLeDiff, Nat.reduceEqDiff, Int.reduceNeg, eitherK]) | (refine Rn.f ?hc ?_; case hc => simp (config := { implicitDefEqProofs := false, maxSteps := 2000000 }) (disch := omega) only [ps, ↓reduceIte, reduceCtorEq, Int.reduceLT, Int.reduceLE, Int.reduceEq, Nat.reduceLT, Nat.reduceLeDiff, Nat.reduceEqDiff, Int.reduceNeg, eitherK]))
  exact Rn.bind r1 (Rn.bind t1 (Rn.pure _))
theorem two_mul (ha : Ri a0 a1) (hb : Ri b0 b1) : ∃ s m, Rn (fun k => Fshuntref01_Two k 42 a0 a1 b0 b1) (ans s m) ∧ Nm W s m (Zv W a0 a1 * Zv W b0 b1) := by
  have k1 := ha.1
  have k2 := hb.1
  obtain ⟨l1, p1, p2, p3⟩ := rTake_ev a0 a1 (by omega) (ha.nm da)
  obtain ⟨l2, q1, q2, q3⟩ := rTake_ev b0 b1 (by omega) (hb.nm db)
  obtain ⟨s, l, r1, r2, r3⟩ := Times_ev a0 b0 l1 l2 p2 q2 (by omega) (by omega)
  obtain ⟨m, t1, t2, t3⟩ := told_ev s l (by omega) r2
  refine ⟨s, m, Rn.up (f := fun k => Fshuntref01_Two k 42 a0 a1 b0 b1) ?_, t2⟩
  show Rn (fun k => bshuntref01_Two k 42 a0 a1 b0 b1) _
  unfold bshuntref01_Two
  refine Rn.bind (right_ev a0 a1 la da) ?_
  (first | (refine Rn.t ?hc ?_; case hc => simp (config := { implicitDefEqProofs := false, maxSteps := 2000000 }) (disch := omega) only [ps, ↓reduceIte, reduceCtorEq, Int.reduceLT, Int.reduceLE, Int.reduceEq, Nat.reduceLT, Nat.reduceLeDiff, Nat.reduceEqDiff, Int.reduceNeg, eitherK, ha, decide_true]) | (refine Rn.f ?hc ?_; case hc => simp (config := { implicitDefEqProofs := false, maxSteps := 2000000 }) (disch := omega) only [ps, ↓reduceIte, reduceCtorEq, Int.reduceLT, Int.reduceLE, Int.reduceEq, Nat.reduceLT, Nat.reduceLeDiff, Nat.reduceEqDiff, Int.reduceNeg, eitherK, ha, decide_true]))
  refine Rn.bind (right_ev b0 b1 lb db) ?_
  (first | (refine Rn.t ?hc ?_; case hc => simp (config := { implicitDefEqProofs := false, maxSteps := 2000000 }) (disch := omega) only [ps, ↓reduceIte, reduceCtorEq, Int.reduceLT, Int.reduceLE, Int.reduceEq, Nat.reduceLT, Nat.reduceLeDiff, Nat.reduceEqDiff, Int.reduceNeg, eitherK, hb, decide_true]) | (refine Rn.f ?hc ?_; case hc => simp (config := { implicitDefEqProofs := false, maxSteps := 2000000 }) (disch := omega) only [ps, ↓reduceIte, reduceCtorEq, Int.reduceLT, Int.reduceLE, Int.reduceEq, Nat.reduceLT, Nat.reduceLeDiff, Nat.reduceEqDiff, Int.reduceNeg, eitherK, hb, decide_true]))
  refine Rn.bind p1 (Rn.bind q1 ?_)
  (first | (refine Rn.t ?hc ?_; case hc => simp (config := { implicitDefEqProofs := false, maxSteps := 2000000 }) (disch := omega) only [ps, ↓reduceIte, reduceCtorEq, Int.reduceLT, Int.reduceLE, Int.reduceEq, Nat.reduceLT, Nat.reduceLeDiff, Nat.reduceEqDiff, Int.reduceNeg, eitherK]) | (refine Rn.f ?hc ?_; case hc => simp (config := { implicitDefEqProofs := false, maxSteps := 2000000 }) (disch := omega) only [ps, ↓reduceIte, reduceCtorEq, Int.reduceLT, Int.reduceLE, Int.reduceEq, Nat.reduceLT, Nat.reduceLeDiff, Nat.reduceEqDiff, Int.reduceNeg, eitherK]))
  (first | (refine Rn.t ?hc ?_; case hc => simp (config := { implicitDefEqProofs := false, maxSteps := 2000000 }) (disch := omega) only [ps, ↓reduceIte, reduceCtorEq, Int.reduceLT, Int.reduceLE, Int.reduceEq, Nat.reduceLT, Nat.reduceLeDiff, Nat.reduceEqDiff, Int.reduceNeg, eitherK]) | (refine Rn.f ?hc ?_; case hc => simp (config := { implicitDefEqProofs := false, maxSteps := 2000000 }) (disch := omega) only [ps, ↓reduceIte, reduceCtorEq, Int.reduceLT, Int.reduceLE, Int.reduceEq, Nat.reduceLT, Nat.reduceLeDiff, Nat.reduceEqDiff, Int.reduceNeg, eitherK]))
  (first | (refine Rn.t ?hc ?_; case hc => simp (config := { implicitDefEqProofs := false, maxSteps := 2000000 }) (disch := omega) only [ps, ↓reduceIte, reduceCtorEq, Int.reduceLT, Int.reduceLE, Int.reduceEq, Nat.reduceLT, Nat.reduceLeDiff, Nat.reduceEqDiff, Int.reduceNeg, eitherK]) | (refine Rn.f ?hc ?_; case hc => simp (config := { implicitDefEqProofs := false, maxSteps := 2000000 }) (disch := omega) only [ps, ↓reduceIte, reduceCtorEq, Int.reduceLT, Int.reduceLE, Int.reduceEq, Nat.reduceLT, Nat.reduceLeDiff, Nat.reduceEqDiff, Int.reduceNeg, eitherK]))
  exact Rn.bind r1 (Rn.bind t1 (Rn.pure _))
theorem rcmp_ev (ha : Ri a0 a1) (hb : Ri b0 b1) : Rn (fun k => Fshuntref01_Cmp k a0 a1 b0 b1) (cmpZ (Zv W a0 a1) (Zv W b0 b1), 0) := by
  have k1 := ha.1
  have k2 := hb.1
  obtain ⟨l1, p1, p2, p3⟩ := rTake_ev a0 a1 (by omega) (ha.nm da)
  obtain ⟨l2, q1, q2, q3⟩ := rTake_ev b0 b1 (by omega) (hb.nm db)
  refine Rn.up (f := fun k => Fshuntref01_Cmp k a0 a1 b0 b1) ?_
  show Rn (fun k => bshuntref01_Cmp k a0 a1 b0 b1) _
  unfold bshuntref01_Cmp
  refine Rn.bind (right_ev a0 a1 la da) ?_
  (first | (refine Rn.t ?hc ?_; case hc => simp (config := { implicitDefEqProofs := false, maxSteps := 2000000 }) (disch := omega) only [ps, ↓reduceIte, reduceCtorEq, Int.reduceLT, Int.reduceLE, Int.reduceEq, Nat.reduceLT, Nat.reduceLeDiff, Nat.reduceEqDiff, Int.reduceNeg, eitherK, ha, decide_true]) | (refine Rn.f ?hc ?_; case hc => simp (config := { implicitDefEqProofs := false, maxSteps := 2000000 }) (disch := omega) only [ps, ↓reduceIte, reduceCtorEq, Int.reduceLT, Int.reduceLE, Int.reduceEq, Nat.reduceLT, Nat.reduceLeDiff, Nat.reduceEqDiff, Int.reduceNeg, eitherK, ha, decide_true]))
  refine Rn.bind (right_ev b0 b1 lb db) ?_
  (first | (refine Rn.t ?hc ?_; case hc => simp (config := { implicitDefEqProofs := false, maxSteps := 2000000 }) (disch := omega) only [ps, ↓reduceIte, reduceCtorEq, Int.reduceLT, Int.reduceLE, Int.reduceEq, Nat.reduceLT, Nat.reduceLeDiff, Nat.reduceEqDiff, Int.reduceNeg, eitherK, hb, decide_true]) | (refine Rn.f ?hc ?_; case hc => simp (config := { implicitDefEqProofs := false, maxSteps := 2000000 }) (disch := omega) only [ps, ↓reduceIte, reduceCtorEq, Int.reduceLT, Int.reduceLE, Int.reduceEq, Nat.reduceLT, Nat.reduceLeDiff, Nat.reduceEqDiff, Int.reduceNeg, eitherK, hb, decide_true]))
  exact Rn.bind p1 (Rn.bind q1 (Rn.bind (Held_ev a0 b0 l1 l2 p2 q2 (by omega) (by omega)) (Rn.pure _)))
end
end Go.Proofs.Ytghdpmejgonjmaa.Am
