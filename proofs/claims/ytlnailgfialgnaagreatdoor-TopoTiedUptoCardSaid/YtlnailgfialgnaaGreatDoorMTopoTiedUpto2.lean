/- qj reckoning: which waves are right. -/
import Derived.Test.YtlnailgfialgnaaGreatDoorMTopoTiedUpto1
import Derived.Lib.IndexLaws
import Derived.KernelRfl

set_option linter.unusedVariables false
set_option linter.unusedSectionVars false
set_option linter.unusedSimpArgs false
set_option maxRecDepth 10000
namespace Go.Proofs.YtlnailgfialgnaaGreatDoor.Am
open Go

structure OkW (w0 : Int) (w1 : List (Int × Int)) (w2 : List Int) : Prop where
 vals : ∀ j, 0 ≤ j → j < w1.length → okN (w1.getD j (0, 0)).1 (w1.getD j (0, 0)).2 = true
 steps : ∀ j, 0 ≤ j → j < w2.length → 0 ≤ w2.getD j 0 ∧ w2.getD j 0 ≤ 1000000000
 kind : w0 = 1 ∧ w1.length = 1 ∧ w2.length = 0 ∨ w0 = 2 ∧ w1.length = 2 ∧ w2.length = 5 ∧ 1 ≤ w2.getD 4 0 ∧ w2.getD 1 0 + w2.getD 2 0 + w2.getD 3 0 ≤ w2.getD 4 0 ∨
  w0 = 3 ∧ w1.length = w2.length ∧ 1 ≤ w1.length ∧ w1.length ≤ 16 ∧ (∀ j, 1 ≤ j → j < w2.length → w2.getD (j - 1) 0 < w2.getD j 0) ∨ w0 = 4 ∧ 1 ≤ w1.length ∧ w1.length ≤ 16 ∧ w2.length = 0
noncomputable def okW (w0 : Int) (w1 : List (Int × Int)) (w2 : List Int) : Bool := @decide (OkW w0 w1 w2) (Classical.propDecidable _)
theorem qtS {w0 : Int} {w1 : List (Int × Int)} {w2 : List Int} : okW w0 w1 w2 = true ↔ OkW w0 w1 w2 := @decide_eq_true_iff _ (Classical.propDecidable _)
theorem qiV {w0 : Int} {w1 : List (Int × Int)} {w2 : List Int} : okW w0 w1 w2 = false ↔ ¬ OkW w0 w1 w2 := @decide_eq_false_iff_not _ (Classical.propDecidable _)
section
variable (w0 : Int) (w1 : List (Int × Int)) (w2 : List Int) (h1 : w1.length ≤ 1000000000000000000) (h2 : w2.length ≤ 1000000000000000000)
include h1 h2
theorem qtT : ∃ o, Rl (fun k n => qbA k n w1 w1.length 0 w0 w1 w2) o ∧ ((∀ j, 0 ≤ j → j < w1.length → okN (w1.getD j (0, 0)).1 (w1.getD j (0, 0)).2 = true) ∧ o = .inr (w0, w1, w2) ∨ (¬ ∀ j, 0 ≤ j → j < w1.length → okN (w1.getD j (0, 0)).1 (w1.getD j (0, 0)).2 = true) ∧ ∃ a : Bool × Int × List (Int × Int) × List Int × Int × Int, a.1 = false ∧ o = .inl a) := by
 refine qds w1.length 0 (fun k n i => qbA k n w1 w1.length i w0 w1 w2) (w0, w1, w2) (fun a => a.1 = false) (fun j => okN (w1.getD j (0, 0)).1 (w1.getD j (0, 0)).2 = true) ?_ ?_ ?_ w1.length 0 (by omega) (by omega)
 ·refine Rl.up (f := fun k n => qbA k n w1 w1.length w1.length w0 w1 w2) (Rl.of 0 fun k n _ => ?_)
  show qcs k (qbA k n) _ _ _ _ _ _ = _
  unfold qcs
  exact if_neg (by simp)
 ·intro i hs hi hok o ho
  refine Rl.up (f := fun k n => qbA k n w1 w1.length i w0 w1 w2) ?_
  show Rl (fun k n => qcs k (qbA k n) _ _ _ _ _ _) _
  unfold qcs
  refine Rl.t (decide_eq_true (by omega)) (Rl.t (by omega) (Rl.at (getD_some (0, 0) (by omega)) (Rl.bind (qc7 _ _) (Rl.f (by rw [Int.toNat_natCast, hok]; decide) ?_))))
  rw [qf (by omega)]
  exact ho
 ·intro i hs hi hok
  refine ⟨(false, w0, w1, w2, (w1.getD i (0, 0)).1, (w1.getD i (0, 0)).2), rfl, Rl.up (f := fun k n => qbA k n w1 w1.length i w0 w1 w2) ?_⟩
  show Rl (fun k n => qcs k (qbA k n) _ _ _ _ _ _) _
  unfold qcs
  refine Rl.t (decide_eq_true (by omega)) (Rl.t (by omega) (Rl.at (getD_some (0, 0) (by omega)) (Rl.bind (qc7 _ _) (Rl.t (by rw [Int.toNat_natCast, Bool.eq_false_iff.2 hok]; rfl) (Rl.pure _)))))
theorem qtU : ∃ o, Rl (fun k n => qa8 k n w2 w2.length 0 w0 w1 w2) o ∧ ((∀ j, 0 ≤ j → j < w2.length → 0 ≤ w2.getD j 0 ∧ w2.getD j 0 ≤ 1000000000) ∧ o = .inr (w0, w1, w2) ∨ (¬ ∀ j, 0 ≤ j → j < w2.length → 0 ≤ w2.getD j 0 ∧ w2.getD j 0 ≤ 1000000000) ∧ ∃ a : Bool × Int × List (Int × Int) × List Int, a.1 = false ∧ o = .inl a) := by
 refine qds w2.length 0 (fun k n i => qa8 k n w2 w2.length i w0 w1 w2) (w0, w1, w2) (fun a => a.1 = false) (fun j => 0 ≤ w2.getD j 0 ∧ w2.getD j 0 ≤ 1000000000) ?_ ?_ ?_ w2.length 0 (by omega) (by omega)
 ·refine Rl.up (f := fun k n => qa8 k n w2 w2.length w2.length w0 w1 w2) (Rl.of 0 fun k n _ => ?_)
  show qct k (qa8 k n) _ _ _ _ _ _ = _
  unfold qct
  exact if_neg (by simp)
 ·intro i hs hi hok o ho
  refine Rl.up (f := fun k n => qa8 k n w2 w2.length i w0 w1 w2) ?_
  show Rl (fun k n => qct k (qa8 k n) _ _ _ _ _ _) _
  unfold qct
  refine Rl.t (decide_eq_true (by omega)) (Rl.t (by omega) (Rl.at (getD_some 0 (by omega)) (Rl.t (decide_eq_false (by rw [Int.toNat_natCast]; omega)) (Rl.f (by rw [decide_eq_true_eq, Int.toNat_natCast]; omega) ?_))))
  rw [qf (by omega)]
  exact ho
 ·intro i hs hi hok
  refine ⟨(false, w0, w1, w2), rfl, Rl.up (f := fun k n => qa8 k n w2 w2.length i w0 w1 w2) ?_⟩
  show Rl (fun k n => qct k (qa8 k n) _ _ _ _ _ _) _
  unfold qct
  refine Rl.t (decide_eq_true (by omega)) (Rl.t (by omega) (Rl.at (getD_some 0 (by omega)) ?_))
  rw [Int.toNat_natCast]
  by_cases h0 : w2.getD i 0 < 0
  ·exact Rl.f (by rw [decide_eq_false_iff_not]; omega) (Rl.pure _)
  ·exact Rl.t (decide_eq_false h0) (Rl.t (decide_eq_true (by omega)) (Rl.pure _))
theorem qtV (hlen : 1 ≤ w2.length) : ∃ o, Rl (fun k n => qaF k n 1 w0 w1 w2) o ∧ ((∀ j, 1 ≤ j → j < w2.length → w2.getD (j - 1) 0 < w2.getD j 0) ∧ o = .inr (w0, w1, w2) ∨ (¬ ∀ j, 1 ≤ j → j < w2.length → w2.getD (j - 1) 0 < w2.getD j 0) ∧ ∃ a : Bool × Int × List (Int × Int) × List Int, a.1 = false ∧ o = .inl a) := by
 refine qds w2.length 1 (fun k n i => qaF k n i w0 w1 w2) (w0, w1, w2) (fun a => a.1 = false) (fun j => w2.getD (j - 1) 0 < w2.getD j 0) ?_ ?_ ?_ (w2.length - 1) 1 (by omega) (by omega)
 ·refine Rl.up (f := fun k n => qaF k n w2.length w0 w1 w2) (Rl.of 0 fun k n _ => ?_)
  show qbE k (qaF k n) _ _ _ _ = _
  unfold qbE
  exact if_neg (by simp)
 ·intro i hs hi hok o ho
  refine Rl.up (f := fun k n => qaF k n i w0 w1 w2) ?_
  show Rl (fun k n => qbE k (qaF k n) _ _ _ _) _
  unfold qbE
  have e1 : (IntKind.i64.wrap ((i : Int) - 1)) = ((i - 1 : Nat) : Int) := by rw [qf (by omega)]; omega
  rw [e1]
  refine Rl.t (decide_eq_true (by omega)) (Rl.t (by omega) (Rl.at (getD_some 0 (by omega)) (Rl.t (by omega) (Rl.at (getD_some 0 (by omega)) (Rl.f (by rw [decide_eq_true_eq, Int.toNat_natCast, Int.toNat_natCast]; omega) ?_)))))
  rw [qf (by omega)]
  exact ho
 ·intro i hs hi hok
  refine ⟨(false, w0, w1, w2), rfl, Rl.up (f := fun k n => qaF k n i w0 w1 w2) ?_⟩
  show Rl (fun k n => qbE k (qaF k n) _ _ _ _) _
  unfold qbE
  have e1 : (IntKind.i64.wrap ((i : Int) - 1)) = ((i - 1 : Nat) : Int) := by rw [qf (by omega)]; omega
  rw [e1]
  exact Rl.t (decide_eq_true (by omega)) (Rl.t (by omega) (Rl.at (getD_some 0 (by omega)) (Rl.t (by omega) (Rl.at (getD_some 0 (by omega)) (Rl.t (decide_eq_true (by rw [Int.toNat_natCast, Int.toNat_natCast]; omega)) (Rl.pure _))))))
theorem qtW : ∃ o, Rl (fun k n => qP k n 0 w0 w1 w2) o ∧ ((∀ j, 0 ≤ j → j < w1.length → okN (w1.getD j (0, 0)).1 (w1.getD j (0, 0)).2 = true) ∧ o = .inr (w0, w1, w2) ∨ (¬ ∀ j, 0 ≤ j → j < w1.length → okN (w1.getD j (0, 0)).1 (w1.getD j (0, 0)).2 = true) ∧ ∃ a : Bool × Int × List (Int × Int) × List Int, a.1 = false ∧ o = .inl a) := by
 refine qds w1.length 0 (fun k n i => qP k n i w0 w1 w2) (w0, w1, w2) (fun a => a.1 = false) (fun j => okN (w1.getD j (0, 0)).1 (w1.getD j (0, 0)).2 = true) ?_ ?_ ?_ w1.length 0 (by omega) (by omega)
 ·refine Rl.up (f := fun k n => qP k n w1.length w0 w1 w2) (Rl.of 0 fun k n _ => ?_)
  show qaT k (qP k n) _ _ _ _ = _
  unfold qaT
  exact if_neg (by simp)
 ·intro i hs hi hok o ho
  refine Rl.up (f := fun k n => qP k n i w0 w1 w2) ?_
  show Rl (fun k n => qaT k (qP k n) _ _ _ _) _
  unfold qaT
  refine Rl.t (decide_eq_true (by omega)) (Rl.t (by omega) (Rl.at (getD_some (0, 0) (by omega)) (Rl.bind (qc8 _ _) (Rl.f (by rw [Int.toNat_natCast, hok]; decide) ?_))))
  rw [qf (by omega)]
  exact ho
 ·intro i hs hi hok
  refine ⟨(false, w0, w1, w2), rfl, Rl.up (f := fun k n => qP k n i w0 w1 w2) ?_⟩
  show Rl (fun k n => qaT k (qP k n) _ _ _ _) _
  unfold qaT
  refine Rl.t (decide_eq_true (by omega)) (Rl.t (by omega) (Rl.at (getD_some (0, 0) (by omega)) (Rl.bind (qc8 _ _) (Rl.t (by rw [Int.toNat_natCast, Bool.eq_false_iff.2 hok]; rfl) (Rl.pure _)))))
theorem qtX : ∃ o, Rl (fun k n => qI k n 0 w0 w1 w2) o ∧ ((∀ j, 0 ≤ j → j < w2.length → 0 ≤ w2.getD j 0 ∧ w2.getD j 0 ≤ 1000000000) ∧ o = .inr (w0, w1, w2) ∨ (¬ ∀ j, 0 ≤ j → j < w2.length → 0 ≤ w2.getD j 0 ∧ w2.getD j 0 ≤ 1000000000) ∧ ∃ a : Bool × Int × List (Int × Int) × List Int, a.1 = false ∧ o = .inl a) := by
 refine qds w2.length 0 (fun k n i => qI k n i w0 w1 w2) (w0, w1, w2) (fun a => a.1 = false) (fun j => 0 ≤ w2.getD j 0 ∧ w2.getD j 0 ≤ 1000000000) ?_ ?_ ?_ w2.length 0 (by omega) (by omega)
 ·refine Rl.up (f := fun k n => qI k n w2.length w0 w1 w2) (Rl.of 0 fun k n _ => ?_)
  show qaU k (qI k n) _ _ _ _ = _
  unfold qaU
  exact if_neg (by simp)
 ·intro i hs hi hok o ho
  refine Rl.up (f := fun k n => qI k n i w0 w1 w2) ?_
  show Rl (fun k n => qaU k (qI k n) _ _ _ _) _
  unfold qaU
  refine Rl.t (decide_eq_true (by omega)) (Rl.t (by omega) (Rl.at (getD_some 0 (by omega)) (Rl.t (decide_eq_false (by rw [Int.toNat_natCast]; omega)) (Rl.t (by omega) (Rl.at (getD_some 0 (by omega)) (Rl.f (by rw [decide_eq_true_eq, Int.toNat_natCast]; omega) ?_))))))
  rw [qf (by omega)]
  exact ho
 ·intro i hs hi hok
  refine ⟨(false, w0, w1, w2), rfl, Rl.up (f := fun k n => qI k n i w0 w1 w2) ?_⟩
  show Rl (fun k n => qaU k (qI k n) _ _ _ _) _
  unfold qaU
  refine Rl.t (decide_eq_true (by omega)) (Rl.t (by omega) (Rl.at (getD_some 0 (by omega)) ?_))
  rw [Int.toNat_natCast]
  by_cases h0 : w2.getD i 0 < 0
  ·exact Rl.f (by rw [decide_eq_false_iff_not]; omega) (Rl.pure _)
  ·exact Rl.t (decide_eq_false h0) (Rl.t (by omega) (Rl.at (getD_some 0 (by omega)) (Rl.t (decide_eq_true (by omega)) (Rl.pure _))))
end
theorem qqw (w2 : List Int) (h2 : w2.length ≤ 1000000000000000000) (hlen : 1 ≤ w2.length) : ∃ b, Rn (fun k => qcJ k w2) b ∧ (b = true ↔ ∀ j, 1 ≤ j → j < w2.length → w2.getD (j - 1) 0 < w2.getD j 0) := by
 obtain ⟨o, ho, h⟩ : ∃ o, Rl (fun k n => qL k n w2 1) o ∧ ((∀ j, 1 ≤ j → j < w2.length → w2.getD (j - 1) 0 < w2.getD j 0) ∧ o = .inr () ∨ (¬ ∀ j, 1 ≤ j → j < w2.length → w2.getD (j - 1) 0 < w2.getD j 0) ∧ ∃ a : Bool, a = false ∧ o = .inl a) := by
  refine qds w2.length 1 (fun k n i => qL k n w2 i) () (fun a => a = false) (fun j => w2.getD (j - 1) 0 < w2.getD j 0) ?_ ?_ ?_ (w2.length - 1) 1 (by omega) (by omega)
  ·refine Rl.up (f := fun k n => qL k n w2 w2.length) (Rl.of 0 fun k n _ => ?_)
   show qaJ k (qL k n) _ _ = _
   unfold qaJ
   exact if_neg (by simp)
  ·intro i hs hi hok o ho
   refine Rl.up (f := fun k n => qL k n w2 i) ?_
   show Rl (fun k n => qaJ k (qL k n) _ _) _
   unfold qaJ
   have e1 : (IntKind.i64.wrap ((i : Int) - 1)) = ((i - 1 : Nat) : Int) := by rw [qf (by omega)]; omega
   rw [e1]
   refine Rl.t (decide_eq_true (by omega)) (Rl.t (by omega) (Rl.at (getD_some 0 (by omega)) (Rl.t (by omega) (Rl.at (getD_some 0 (by omega)) (Rl.f (by rw [decide_eq_true_eq, Int.toNat_natCast, Int.toNat_natCast]; omega) ?_)))))
   rw [qf (by omega)]
   exact ho
  ·intro i hs hi hok
   refine ⟨false, rfl, Rl.up (f := fun k n => qL k n w2 i) ?_⟩
   show Rl (fun k n => qaJ k (qL k n) _ _) _
   unfold qaJ
   have e1 : (IntKind.i64.wrap ((i : Int) - 1)) = ((i - 1 : Nat) : Int) := by rw [qf (by omega)]; omega
   rw [e1]
   exact Rl.t (decide_eq_true (by omega)) (Rl.t (by omega) (Rl.at (getD_some 0 (by omega)) (Rl.t (by omega) (Rl.at (getD_some 0 (by omega)) (Rl.t (decide_eq_true (by rw [Int.toNat_natCast, Int.toNat_natCast]; omega)) (Rl.pure _))))))
 rcases h with ⟨h, rfl⟩ | ⟨h, a, ha, rfl⟩
 ·exact ⟨true, Rn.up (f := fun k => qcJ k w2) (Rn.bind ho.diag (Rn.pure _)), by simp only [true_iff]; exact h⟩
 ·subst ha
  exact ⟨false, Rn.up (f := fun k => qcJ k w2) (Rn.bind ho.diag (Rn.pure _)), by simp only [Bool.false_eq_true, false_iff]; exact h⟩

theorem qcK {w0 : Int} {w1 : List (Int × Int)} {w2 : List Int} {b : Bool} (h : b = true ↔ OkW w0 w1 w2) : b = okW w0 w1 w2 := Bool.eq_iff_iff.2 (h.trans qtS.symm)
section
variable (w0 : Int) (w1 : List (Int × Int)) (w2 : List Int) (h1 : w1.length ≤ 1000000000000000000) (h2 : w2.length ≤ 1000000000000000000)
include h1 h2
theorem qmL : Rn (fun k => qeh k w0 w1 w2) (okW w0 w1 w2) := by
 refine Rn.up (f := fun k => qeh k w0 w1 w2) ?_
 show Rn (fun k => qht k w0 w1 w2) _
 unfold qht
 obtain ⟨o, ho, hv⟩ := qtT w0 w1 w2 h1 h2
 refine Rn.bind ho.diag ?_
 rcases hv with ⟨hv, rfl⟩ | ⟨hv, a, ha, rfl⟩
 case inr =>
  have : okW w0 w1 w2 = false := qiV.2 fun h => hv h.vals
  rw [this, ← ha]
  exact Rn.pure _
 show Rn (fun k => Option.bind (qa8 k k w2 w2.length 0 w0 w1 w2) _) _
 obtain ⟨o, ho, hs⟩ := qtU w0 w1 w2 h1 h2
 refine Rn.bind ho.diag ?_
 rcases hs with ⟨hs, rfl⟩ | ⟨hs, a, ha, rfl⟩
 case inr =>
  have : okW w0 w1 w2 = false := qiV.2 fun h => hs h.steps
  rw [this, ← ha]
  exact Rn.pure _
 have hk : OkW w0 w1 w2 ↔ _ := ⟨fun h => h.kind, fun h => ⟨hv, hs, h⟩⟩
 by_cases k1 : w0 = 1
 ·refine Rn.t (by simp [k1]) (Rn.eq 0 fun k _ => ?_)
  dsimp only
  repeat' split
  all_goals refine congrArg some (qcK (Iff.trans ?_ hk.symm))
  all_goals simp only [beq_iff_eq, decide_eq_true_eq, Bool.false_eq_true, false_iff, Bool.not_eq_true] at *
  all_goals omega
 refine Rn.f (by simpa using k1) ?_
 by_cases k2 : w0 = 2
 ·refine Rn.t (by simp [k2]) ?_
  by_cases l1 : w1.length = 2
  ·refine Rn.t (by simp [l1]) ?_
   by_cases l2 : w2.length = 5
   ·refine Rn.t (by simp [l2]) ?_
    refine Rn.at (getD_some 0 (by show 4 < w2.length; omega)) ?_
    by_cases l3 : w2.getD 4 0 ≥ 1
    ·refine Rn.t (decide_eq_true l3) (Rn.at (getD_some 0 (by show 1 < w2.length; omega)) (Rn.at (getD_some 0 (by show 2 < w2.length; omega)) (Rn.at (getD_some 0 (by show 3 < w2.length; omega)) (Rn.at (getD_some 0 (by show 4 < w2.length; omega)) (Rn.const (congrArg some (qcK (Iff.trans ?_ hk.symm))))))))
     have s1 := hs 1 (by omega) (by omega)
     have s2 := hs 2 (by omega) (by omega)
     have s3 := hs 3 (by omega) (by omega)
     dsimp only
     rw [qf (x := w2.getD 1 0 + w2.getD 2 0) (by omega), qf (by omega), decide_eq_true_eq]
     constructor
     ·intro h; exact .inr (.inl ⟨k2, l1, l2, l3, h⟩)
     ·rintro (⟨a, _⟩ | ⟨_, _, _, _, h⟩ | ⟨a, _⟩ | ⟨a, _⟩) <;> omega
    ·refine Rn.f (by rw [decide_eq_true_eq]; exact l3) (Rn.const (congrArg some (qcK (Iff.trans ?_ hk.symm))))
     simp only [Bool.false_eq_true, false_iff]
     omega
   ·refine Rn.f (by simpa using (by omega : ¬ (w2.length : Int) = 5)) (Rn.const (congrArg some (qcK (Iff.trans ?_ hk.symm))))
    simp only [Bool.false_eq_true, false_iff]
    omega
  ·refine Rn.f (by simpa using (by omega : ¬ (w1.length : Int) = 2)) (Rn.const (congrArg some (qcK (Iff.trans ?_ hk.symm))))
   simp only [Bool.false_eq_true, false_iff]
   omega
 refine Rn.f (by simpa using k2) ?_
 by_cases k3 : w0 = 3
 ·refine Rn.t (by simp [k3]) ?_
  by_cases l0 : w2.length = 0
  ·have e5 : Rn (fun k => qaF k k 1 w0 w1 w2) (.inr (w0, w1, w2)) := Rn.eq 1 fun k hk => by
    obtain ⟨k, rfl⟩ : ∃ m, k = m + 1 := ⟨k - 1, by omega⟩
    show qbE (k + 1) (qaF (k + 1) k) _ _ _ _ = _
    unfold qbE
    exact if_neg (by rw [l0]; decide)
   refine Rn.bind e5 (Rn.eq 0 fun k _ => ?_)
   show (if _ then _ else _) = _
   dsimp only
   repeat' split
   all_goals refine congrArg some (qcK (Iff.trans ?_ hk.symm))
   all_goals simp only [beq_iff_eq, decide_eq_true_eq, Bool.false_eq_true, false_iff, Bool.not_eq_true] at *
   all_goals omega
  obtain ⟨o, ho, h5⟩ := qtV w0 w1 w2 h1 h2 (by omega)
  refine Rn.bind ho.diag ?_
  rcases h5 with ⟨h5, rfl⟩ | ⟨h5, a, ha, rfl⟩
  case inr =>
   have : okW w0 w1 w2 = false := qiV.2 fun h => by
    rcases h.kind with g | g | g | g
    ·omega
    ·omega
    ·exact h5 g.2.2.2.2
    ·omega
   rw [this, ← ha]
   exact Rn.pure _
  refine Rn.eq 0 fun k _ => ?_
  show (if _ then _ else _) = _
  dsimp only
  have hk3 : OkW w0 w1 w2 ↔ (w1.length = w2.length ∧ 1 ≤ w1.length ∧ w1.length ≤ 16) := hk.trans ⟨fun g => by
   rcases g with g | g | g | g
   ·omega
   ·omega
   ·exact ⟨g.2.1, g.2.2.1, g.2.2.2.1⟩
   ·omega, fun g => .inr (.inr (.inl ⟨k3, g.1, g.2.1, g.2.2, h5⟩))⟩
  repeat' split
  all_goals refine congrArg some (qcK (Iff.trans ?_ hk3.symm))
  all_goals simp only [beq_iff_eq, decide_eq_true_eq, Bool.false_eq_true, false_iff, Bool.not_eq_true] at *
  all_goals omega
 refine Rn.f (by simpa using k3) ?_
 by_cases k4 : w0 = 4
 ·refine Rn.t (by simp [k4]) (Rn.eq 0 fun k _ => ?_)
  dsimp only
  repeat' split
  all_goals refine congrArg some (qcK (Iff.trans ?_ hk.symm))
  all_goals simp only [beq_iff_eq, decide_eq_true_eq, Bool.false_eq_true, false_iff, Bool.not_eq_true] at *
  all_goals omega
 refine Rn.f (by simpa using k4) (Rn.const (congrArg some (qcK (Iff.trans ?_ hk.symm))))
 simp only [Bool.false_eq_true, false_iff]
 omega
theorem qo8 : Rn (fun k => qV k w0 w1 w2) (okW w0 w1 w2) := by
 refine Rn.up (f := fun k => qV k w0 w1 w2) ?_
 show Rn (fun k => qe8 k w0 w1 w2) _
 unfold qe8
 obtain ⟨o, ho, hv⟩ := qtW w0 w1 w2 h1 h2
 refine Rn.bind ho.diag ?_
 rcases hv with ⟨hv, rfl⟩ | ⟨hv, a, ha, rfl⟩
 case inr =>
  have : okW w0 w1 w2 = false := qiV.2 fun h => hv h.vals
  rw [this, ← ha]
  exact Rn.pure _
 show Rn (fun k => Option.bind (qI k k 0 w0 w1 w2) _) _
 obtain ⟨o, ho, hs⟩ := qtX w0 w1 w2 h1 h2
 refine Rn.bind ho.diag ?_
 rcases hs with ⟨hs, rfl⟩ | ⟨hs, a, ha, rfl⟩
 case inr =>
  have : okW w0 w1 w2 = false := qiV.2 fun h => hs h.steps
  rw [this, ← ha]
  exact Rn.pure _
 have hk : OkW w0 w1 w2 ↔ _ := ⟨fun h => h.kind, fun h => ⟨hv, hs, h⟩⟩
 by_cases k1 : w0 = 1
 ·refine Rn.t (by simp [k1]) (Rn.eq 0 fun k _ => ?_)
  dsimp only
  repeat' split
  all_goals refine congrArg some (qcK (Iff.trans ?_ hk.symm))
  all_goals simp only [beq_iff_eq, decide_eq_true_eq, Bool.false_eq_true, false_iff, Bool.not_eq_true] at *
  all_goals omega
 refine Rn.f (by simpa using k1) ?_
 by_cases k2 : w0 = 2
 ·refine Rn.t (by simp [k2]) ?_
  by_cases l1 : w1.length = 2
  ·refine Rn.t (by simp [l1]) ?_
   by_cases l2 : w2.length = 5
   ·refine Rn.t (by simp [l2]) ?_
    refine Rn.at (getD_some 0 (by show 4 < w2.length; omega)) ?_
    by_cases l3 : w2.getD 4 0 > 0
    ·refine Rn.t (decide_eq_true l3) (Rn.at (getD_some 0 (by show 1 < w2.length; omega)) (Rn.at (getD_some 0 (by show 2 < w2.length; omega)) (Rn.at (getD_some 0 (by show 3 < w2.length; omega)) (Rn.at (getD_some 0 (by show 4 < w2.length; omega)) (Rn.const (congrArg some (qcK (Iff.trans ?_ hk.symm))))))))
     have s1 := hs 1 (by omega) (by omega)
     have s2 := hs 2 (by omega) (by omega)
     have s3 := hs 3 (by omega) (by omega)
     dsimp only
     rw [qf (x := w2.getD 1 0 + w2.getD 2 0) (by omega), qf (by omega), decide_eq_true_eq]
     constructor
     ·intro h; exact .inr (.inl ⟨k2, l1, l2, l3, h⟩)
     ·rintro (⟨a, _⟩ | ⟨_, _, _, _, h⟩ | ⟨a, _⟩ | ⟨a, _⟩) <;> omega
    ·refine Rn.f (by rw [decide_eq_true_eq]; exact l3) (Rn.const (congrArg some (qcK (Iff.trans ?_ hk.symm))))
     simp only [Bool.false_eq_true, false_iff]
     omega
   ·refine Rn.f (by simpa using (by omega : ¬ (w2.length : Int) = 5)) (Rn.const (congrArg some (qcK (Iff.trans ?_ hk.symm))))
    simp only [Bool.false_eq_true, false_iff]
    omega
  ·refine Rn.f (by simpa using (by omega : ¬ (w1.length : Int) = 2)) (Rn.const (congrArg some (qcK (Iff.trans ?_ hk.symm))))
   simp only [Bool.false_eq_true, false_iff]
   omega
 refine Rn.f (by simpa using k2) ?_
 by_cases k3 : w0 = 3
 ·refine Rn.t (by simp [k3]) ?_
  by_cases l0 : w1.length = w2.length ∧ 1 ≤ w1.length ∧ w1.length ≤ 16
  ·refine Rn.t (by rw [beq_iff_eq]; show (w1.length : Int) = w2.length; omega) (Rn.t (decide_eq_true (by show (w1.length : Int) ≥ 1; omega)) (Rn.t (decide_eq_true (by show (w1.length : Int) ≤ 16; omega)) ?_))
   obtain ⟨b, hb, h5⟩ := qqw w2 h2 (by omega)
   have : b = okW w0 w1 w2 := qcK (h5.trans (Iff.trans ⟨fun g => .inr (.inr (.inl ⟨k3, l0.1, l0.2.1, l0.2.2, g⟩)), fun g => by
    rcases g with g | g | g | g
    ·omega
    ·omega
    ·exact g.2.2.2.2
    ·omega⟩ hk.symm))
   rw [← this]
   exact Rn.bind hb (Rn.pure _)
  ·have : okW w0 w1 w2 = false := qiV.2 fun h => by have := h.kind; omega
   rw [this]
   by_cases c1 : w1.length = w2.length
   ·refine Rn.t (by rw [beq_iff_eq]; show (w1.length : Int) = w2.length; omega) ?_
    by_cases c2 : 1 ≤ w1.length
    ·refine Rn.t (decide_eq_true (by show (w1.length : Int) ≥ 1; omega)) (Rn.f (by rw [decide_eq_true_eq]; show ¬ (w1.length : Int) ≤ 16; omega) (Rn.pure _))
    ·exact Rn.f (by rw [decide_eq_true_eq]; show ¬ (w1.length : Int) ≥ 1; omega) (Rn.pure _)
   ·exact Rn.f (by rw [beq_iff_eq]; show ¬ (w1.length : Int) = w2.length; omega) (Rn.pure _)
 refine Rn.f (by simpa using k3) ?_
 by_cases k4 : w0 = 4
 ·refine Rn.t (by simp [k4]) (Rn.eq 0 fun k _ => ?_)
  dsimp only
  repeat' split
  all_goals refine congrArg some (qcK (Iff.trans ?_ hk.symm))
  all_goals simp only [beq_iff_eq, decide_eq_true_eq, Bool.false_eq_true, false_iff, Bool.not_eq_true] at *
  all_goals omega
 refine Rn.f (by simpa using k4) (Rn.const (congrArg some (qcK (Iff.trans ?_ hk.symm))))
 simp only [Bool.false_eq_true, false_iff]
 omega
end

def qdU (w1 : List (Int × Int)) (j : Nat) : Rat := qie (w1.getD j (0, 0)).1 (w1.getD j (0, 0)).2
section
variable {w0 : Int} {w1 : List (Int × Int)} {w2 : List Int} (hw : OkW w0 w1 w2) {step : Int} (h0 : 0 ≤ step) (h1 : step ≤ 1000000000)
include hw h0 h1
end
theorem qo9 (c : Int) (hc : c ≤ 18) (x0 : Bool) (x1 : Nat) (ms : List Int) : ∀ (n : Nat) (i : Int) (s : Bool) (z : List Int) (p : Int), 0 ≤ i → i + n = c → Nm U s z p → (z.length : Int) ≤ 4 + 4 * i →
  ∃ s' z', Rl (fun k m => qbm k m c i x0 x1 s z ms) (x0, x1, s', z', ms) ∧ Nm U s' z' (p * ((10 ^ n : Nat) : Int)) ∧ z'.length ≤ 80 := by
 intro n
 induction n with
 | zero =>
  intro i s z p h0 hi nz hz
  refine ⟨s, z, Rl.up (f := fun k m => qbm k m c i x0 x1 s z ms) (Rl.of 0 fun k m _ => ?_), nz.cast (by simp), by omega⟩
  show qch k (qbm k m) _ _ _ _ _ _ _ = _
  unfold qch
  exact if_neg (by simp; omega)
 | succ n ih =>
  intro i s z p h0 hi nz hz
  obtain ⟨t, t1, t2, t3⟩ := qg9 10 (by decide)
  obtain ⟨s1, p1, a1, a2, a3⟩ := qgj s _ z t nz t2 (by omega) (by omega)
  obtain ⟨s', z', b1, b2, b3⟩ := ih (i + 1) s1 p1 (p * 10) (by omega) (by omega) a2 (by omega)
  refine ⟨s', z', Rl.up (f := fun k m => qbm k m c i x0 x1 s z ms) ?_, b2.cast (by rw [Nat.pow_succ]; grind), b3⟩
  show Rl (fun k m => qch k (qbm k m) _ _ _ _ _ _ _) _
  unfold qch
  refine Rl.t (decide_eq_true (by omega)) (Rl.bind t1 (Rl.bind a1 ?_))
  rw [qf (by omega)]
  exact b1
theorem qmM (c : Int) (h : 0 ≤ c ∧ c ≤ 18) : ∃ s z, Rn (fun k => qcZ k c) (s, z) ∧ Nm U s z ((10 ^ c.toNat : Nat) : Int) ∧ z.length ≤ 80 := by
 obtain ⟨l, a1, a2, a3⟩ := qg9 1 (by decide)
 obtain ⟨s, z, c1, c2, c3⟩ := qo9 c (by omega) false 0 [] c.toNat 0 _ l 1 (by omega) (by omega) a2 (by omega)
 exact ⟨s, z, Rn.up (f := fun k => qcZ k c) (Rn.bind a1 (Rn.bind c1.diag (Rn.pure _))), c2.cast (by simp), c3⟩
theorem qnR {m e : Int} (h : okN m e = true) : ∃ s p t r, Rn (fun k => qb6 k m e) (s, p, t, r) ∧ FrU s p t r (qie m e) ∧ p.length ≤ 90 ∧ r.length ≤ 90 := by
 have hr := qnQ h
 obtain ⟨l, b1, b2, b3⟩ := qr4 m (by omega)
 have up : ∀ {q}, Rn (fun k => qhE k m e) q → Rn (fun k => qb6 k m e) q := fun h => Rn.up (f := fun k => qb6 k m e) h
 by_cases he : e < 0
 ·obtain ⟨s1, z1, a1, a2, a3⟩ := qmM (-e) (by omega)
  have hpos := qkS (-e).toNat
  obtain ⟨s, p, t, r, c1, c2, c3, c4⟩ := qo7 _ _ l z1 b2 a2 (by omega) (by omega) (by omega)
  refine ⟨s, p, t, r, up (Rn.bind b1 (Rn.t (decide_eq_true he) ?_)), c2.cast (by rw [qie, if_pos he]), by omega, by omega⟩
  rw [qf (by omega), show 0 - e = -e by omega]
  exact Rn.bind a1 (Rn.bind c1 (Rn.pure _))
 ·obtain ⟨s1, z1, a1, a2, a3⟩ := qmM e (by omega)
  obtain ⟨s2, p2, d1, d2, d3⟩ := qgj _ s1 l z1 b2 a2 (by omega) (by omega)
  obtain ⟨o, o1, o2, o3⟩ := qg9 1 (by decide)
  refine ⟨s2, p2, _, o, up (Rn.bind b1 (Rn.f (by rw [decide_eq_true_eq]; exact he) (Rn.bind a1 (Rn.bind d1 (Rn.bind o1 (Rn.pure _)))))), (qtR d2 o2).cast (by rw [qie, if_neg he, Int.mul_comm]), by omega, by omega⟩
section
variable {w0 : Int} {w1 : List (Int × Int)} {w2 : List Int} {step : Int} {x0 x2 : Bool} {x1 x3 : Nat} {m m1 : List Int} (hl : w2.length ≤ 16)
include hl
end
def nmB (x : Int) : Bool := decide (97 ≤ x ∧ x ≤ 122 ∨ 48 ≤ x ∧ x ≤ 57 ∨ x = 95)
def byL (s : ByteArray) : List Int := s.data.toList.map fun b : UInt8 => ((b.toNat : Nat) : Int)
theorem qnS (s : ByteArray) : (byL s).length = s.size := by unfold byL; rw [List.length_map]; exact Array.length_toList
def qdB (s : ByteArray) : Bool := (byL s).all nmB && decide (1 ≤ s.size ∧ s.size ≤ 16)
theorem qfK {l : List Int} {p : Int → Bool} : l.all p = true ↔ ∀ j, 0 ≤ j → j < l.length → p (l.getD j 0) = true := by
 rw [List.all_eq_true]
 constructor
 ·intro h j _ hj
  have := h (l[j]'hj) (List.getElem_mem hj)
  simpa [List.getD, hj] using this
 ·intro h x hx
  obtain ⟨j, hj, rfl⟩ := List.mem_iff_getElem.1 hx
  have := h j (Nat.zero_le _) hj
  simpa [List.getD, hj] using this
theorem qqx (l : List Int) (hl : l.length ≤ 1000000000000000000) : ∃ o, Rl (fun k n => qbz k n l l.length 0) o ∧ ((∀ j, 0 ≤ j → j < l.length → nmB (l.getD j 0) = true) ∧ o = .inr () ∨ (¬ ∀ j, 0 ≤ j → j < l.length → nmB (l.getD j 0) = true) ∧ ∃ a : Bool, a = false ∧ o = .inl a) := by
 have key : ∀ (k : Nat) (rec : List Int → Int → Int → Option (Bool ⊕ Unit)) (i : Nat), i < l.length → qcr k rec l l.length i = if nmB (l.getD i 0) = true then rec l l.length ((i : Int) + 1) else some (.inl false) := by
  intro k rec i hi
  unfold qcr nmB
  rw [if_pos (decide_eq_true (by omega)), if_pos (by omega), Int.toNat_natCast, getD_some 0 hi, qf (by omega)]
  simp only [Option.bind_some, decide_eq_true_eq, decide_eq_false_iff_not, Bool.not_eq_true', beq_eq_false_iff_ne]
  repeat' split
  all_goals first | rfl | (exfalso; omega)
 refine qds l.length 0 (fun k n i => qbz k n l l.length i) () (fun a => a = false) (fun j => nmB (l.getD j 0) = true) ?_ ?_ ?_ l.length 0 (by omega) (by omega)
 ·refine Rl.up (f := fun k n => qbz k n l l.length l.length) (Rl.of 0 fun k n _ => ?_)
  show qcr k (qbz k n) _ _ _ = _
  unfold qcr
  exact if_neg (by simp)
 ·intro i hs hi hok o ho
  refine Rl.up (f := fun k n => qbz k n l l.length i) ?_
  show Rl (fun k n => qcr k (qbz k n) _ _ _) _
  simp only [key _ _ i hi, hok, if_true]
  exact ho
 ·intro i hs hi hok
  refine ⟨false, rfl, Rl.up (f := fun k n => qbz k n l l.length i) ?_⟩
  show Rl (fun k n => qcr k (qbz k n) _ _ _) _
  simp only [key _ _ i hi, hok]
  exact Rl.pure _
theorem qnT (s : ByteArray) (hs : s.size ≤ 1000000000000000000) : Rn (fun k => qfj k s) (qdB s) := by
 refine Rn.up (f := fun k => qfj k s) ?_
 show Rn (fun k => qhs k s) _
 unfold qhs qdB
 by_cases h1 : s.size < 1
 ·refine Rn.f (by rw [decide_eq_false_iff_not]; omega) ?_
  rw [show decide (1 ≤ s.size ∧ s.size ≤ 16) = false from decide_eq_false (by omega), Bool.and_false]
  exact Rn.pure _
 refine Rn.t (by rw [decide_eq_false_iff_not]; omega) ?_
 by_cases h2 : s.size > 16
 ·refine Rn.t (decide_eq_true (by omega)) ?_
  rw [show decide (1 ≤ s.size ∧ s.size ≤ 16) = false from decide_eq_false (by omega), Bool.and_false]
  exact Rn.pure _
 refine Rn.f (by rw [decide_eq_true_eq]; omega) ?_
 rw [show decide (1 ≤ s.size ∧ s.size ≤ 16) = true from decide_eq_true (by omega), Bool.and_true]
 obtain ⟨o, h3, h4⟩ := qqx (byL s) (by rw [qnS]; exact hs)
 refine Rn.bind h3.diag ?_
 rcases h4 with ⟨h4, rfl⟩ | ⟨h4, a, rfl, rfl⟩
 ·rw [qfK.2 h4]; exact Rn.pure _
 ·rw [Bool.eq_false_iff.2 fun h => h4 (qfK.1 h)]; exact Rn.pure _
theorem qs7 {s : ByteArray} {i : Nat} (hi : i < s.size) : ∃ b : UInt8, s.data[i]? = some b ∧ (byL s).getD i 0 = (b.toNat : Int) := by
 have hi' : i < s.data.size := hi
 refine ⟨s.data[i], Array.getElem?_eq_getElem hi', ?_⟩
 unfold byL
 rw [List.getD_eq_getElem?_getD, List.getElem?_map, Array.getElem?_toList, Array.getElem?_eq_getElem hi']
 rfl
theorem qpa (s : ByteArray) (hs : s.size ≤ 1000000000000000000) : ∃ o, Rl (fun k n => qaa k n s 0) o ∧ ((∀ j, 0 ≤ j → j < (byL s).length → nmB ((byL s).getD j 0) = true) ∧ o = .inr s ∨ (¬ ∀ j, 0 ≤ j → j < (byL s).length → nmB ((byL s).getD j 0) = true) ∧ ∃ a : Bool, a = false ∧ o = .inl a) := by
 have hl := qnS s
 have key : ∀ (k : Nat) (rec : ByteArray → Int → Option (Bool ⊕ ByteArray)) (i : Nat), i < s.size → qbi k rec s i = if nmB ((byL s).getD i 0) = true then rec s ((i : Int) + 1) else some (.inl false) := by
  intro k rec i hi
  obtain ⟨b, h1, h2⟩ := qs7 hi
  unfold qbi nmB
  rw [if_pos (decide_eq_true (by omega)), if_pos (by omega), Int.toNat_natCast, h1, h2, qf (by omega)]
  simp only [Option.bind_some, decide_eq_true_eq, decide_eq_false_iff_not, bne_iff_ne, ne_eq]
  repeat' split
  all_goals first | rfl | (exfalso; omega)
 refine qds (byL s).length 0 (fun k n i => qaa k n s i) s (fun a => a = false) (fun j => nmB ((byL s).getD j 0) = true) ?_ ?_ ?_ (byL s).length 0 (by omega) (by omega)
 ·refine Rl.up (f := fun k n => qaa k n s (byL s).length) (Rl.of 0 fun k n _ => ?_)
  show qbi k (qaa k n) _ _ = _
  unfold qbi
  exact if_neg (by rw [decide_eq_true_eq]; omega)
 ·intro i hs hi hok o ho
  refine Rl.up (f := fun k n => qaa k n s i) ?_
  show Rl (fun k n => qbi k (qaa k n) _ _) _
  simp only [key _ _ i (by omega), hok, if_true]
  exact ho
 ·intro i hs hi hok
  refine ⟨false, rfl, Rl.up (f := fun k n => qaa k n s i) ?_⟩
  show Rl (fun k n => qbi k (qaa k n) _ _) _
  simp only [key _ _ i (by omega), hok]
  exact Rl.pure _
theorem qjz (s : ByteArray) (hs : s.size ≤ 1000000000000000000) : Rn (fun k => qcy k s) (qdB s) := by
 refine Rn.up (f := fun k => qcy k s) ?_
 show Rn (fun k => qfC k s) _
 unfold qfC qdB
 obtain ⟨o, h3, h4⟩ := qpa s hs
 refine Rn.bind h3.diag ?_
 rcases h4 with ⟨h4, rfl⟩ | ⟨h4, a, rfl, rfl⟩
 ·rw [qfK.2 h4, Bool.true_and]
  by_cases h1 : 1 ≤ s.size
  ·refine Rn.t (decide_eq_true (by omega)) ?_
   rw [show decide (((s.size : Nat) : Int) ≤ 16) = decide (1 ≤ s.size ∧ s.size ≤ 16) from decide_eq_decide.2 (by omega)]
   exact Rn.pure _
  ·refine Rn.f (by rw [decide_eq_true_eq]; omega) ?_
   rw [show decide (1 ≤ s.size ∧ s.size ≤ 16) = false from decide_eq_false (by omega)]
   exact Rn.pure _
 ·rw [Bool.eq_false_iff.2 fun h => h4 (qfK.1 h)]; exact Rn.pure _
structure UF (n : Nat) (ss : List Int) (rt : Nat → Nat) (dp : Nat → Nat) : Prop where
 len : ss.length = n
 par : ∀ i, i < n → ∃ p : Nat, p < n ∧ ss[i]? = some (p : Int) ∧ rt p = rt i ∧ (p ≠ i → dp p < dp i) ∧ (p = i → rt i = i)
 lt : ∀ i, i < n → rt i < n
 self : ∀ i, i < n → ss[rt i]? = some ((rt i : Nat) : Int)
 idem : ∀ i, i < n → rt (rt i) = rt i
theorem UF.half {n : Nat} {ss : List Int} {rt dp : Nat → Nat} (h : UF n ss rt dp) {i p q : Nat} (hi : i < n) (e1 : ss[i]? = some (p : Int)) (hp : p ≠ i) (hpn : p < n) (hq : q < n) (e2 : ss[p]? = some (q : Int)) : UF n (ss.set i (q : Int)) rt dp := by
 obtain ⟨p', a1, a2, a3, a4, a5⟩ := h.par i hi
 obtain ⟨q', b1, b2, b3, b4, b5⟩ := h.par p hpn
 have e : p' = p := by have := Option.some.inj (e1.symm.trans a2); omega
 subst e
 have e : q' = q := by have := Option.some.inj (e2.symm.trans b2); omega
 subst e
 have hdq : dp q' < dp i := by
  by_cases c : q' = p'
  ·rw [c]; exact a4 hp
  ·have := b4 c; have := a4 hp; omega
 have hir : rt i ≠ i := by
  intro c
  have := h.self i hi
  rw [c, e1] at this
  have := Option.some.inj this
  exact hp (by omega)
 refine ⟨by rw [List.length_set]; exact h.len, fun j hj => ?_, h.lt, fun j hj => ?_, h.idem⟩
 ·by_cases c : j = i
  ·subst c
   refine ⟨q', hq, by rw [List.getElem?_set_self (by rw [h.len]; exact hj)], by rw [b3, a3], fun _ => hdq, fun e => ?_⟩
   rw [e] at hdq
   omega
  ·rw [List.getElem?_set_ne (fun e => c e.symm)]
   exact h.par j hj
 ·have hne : i ≠ rt j := by
   intro c
   have := h.idem j hj
   rw [← c] at this
   exact hir this
  rw [List.getElem?_set_ne hne]
  exact h.self j hj
theorem qqy {n : Nat} (hn : n ≤ 1000000000000000000) {rt dp : Nat → Nat} : ∀ (D i : Nat) (ss : List Int), UF n ss rt dp → i < n → dp i ≤ D →
  ∃ s2, UF n s2 rt dp ∧ Rl (fun k q => qM k q n (i : Int) ss) ((rt i : Nat), s2) := by
 intro D
 induction D with
 | zero =>
  intro i ss h hi hd
  obtain ⟨p, a1, a2, a3, a4, a5⟩ := h.par i hi
  have hp : p = i := by
   by_cases c : p = i
   ·exact c
   ·have := a4 c; omega
  refine ⟨ss, h, Rl.up (f := fun k q => qM k q n (i : Int) ss) ?_⟩
  show Rl (fun k q => qan k (qM k q) _ _ _) _
  unfold qan
  rw [Int.toNat_natCast, Nat.zero_add, a5 hp]
  exact Rl.t (by omega) (Rl.at a2 (Rl.f (by simp [hp]) (Rl.pure _)))
 | succ D ih =>
  intro i ss h hi hd
  obtain ⟨p, a1, a2, a3, a4, a5⟩ := h.par i hi
  by_cases hp : p = i
  ·refine ⟨ss, h, Rl.up (f := fun k q => qM k q n (i : Int) ss) ?_⟩
   show Rl (fun k q => qan k (qM k q) _ _ _) _
   unfold qan
   rw [Int.toNat_natCast, Nat.zero_add, a5 hp]
   exact Rl.t (by omega) (Rl.at a2 (Rl.f (by simp [hp]) (Rl.pure _)))
  ·obtain ⟨q, b1, b2, b3, b4, b5⟩ := h.par p a1
   have hu := h.half hi a2 hp a1 b1 b2
   have hdq : dp q ≤ D := by
    have := a4 hp
    by_cases c : q = p
    ·rw [c]; omega
    ·have := b4 c; omega
   obtain ⟨s2, c1, c2⟩ := ih q _ hu b1 hdq
   refine ⟨s2, c1, Rl.up (f := fun k q => qM k q n (i : Int) ss) ?_⟩
   show Rl (fun k q => qan k (qM k q) _ _ _) _
   unfold qan
   rw [Int.toNat_natCast, Nat.zero_add]
   refine Rl.t (by omega) (Rl.at a2 (Rl.t (by simp; omega) (Rl.t (by omega) (Rl.at a2 (Rl.t (by omega) (Rl.at (x := (q : Int)) (by rw [Int.toNat_natCast, Nat.zero_add]; exact b2) (Rl.t (by omega) (Rl.at a2 (Rl.t (by omega) (Rl.at (x := (q : Int)) (by rw [List.getElem?_set_self (by rw [h.len]; exact hi)]) ?_))))))))))
   rw [← a3, ← b3]
   exact c2
theorem qiW {n : Nat} (hn : n ≤ 1000000000000000000) {rt dp : Nat → Nat} {ss : List Int} (h : UF n ss rt dp) {i : Nat} (hi : i < n) :
  ∃ s2, UF n s2 rt dp ∧ Rn (fun k => qa1 k n (i : Int) ss) ((rt i : Nat), s2) := by
 obtain ⟨s2, h1, h2⟩ := qqy hn (dp i) i ss h hi (Nat.le_refl _)
 refine ⟨s2, h1, Rn.up (f := fun k => qa1 k n (i : Int) ss) ?_⟩
 show Rn (fun k => qd7 k _ _ _) _
 unfold qd7
 exact Rn.bind h2.diag (Rn.pure _)
def jn (rt : Nat → Nat) (a b : Nat) : Nat → Nat := fun x => if rt x = rt a then rt b else rt x
theorem UF.join {n : Nat} {ss : List Int} {rt dp : Nat → Nat} (h : UF n ss rt dp) {a b : Nat} (ha : a < n) (hb : b < n) : ∃ dp', UF n (ss.set (rt a) (rt b : Int)) (jn rt a b) dp' := by
 have la := h.lt a ha
 have lb := h.lt b hb
 by_cases c : rt a = rt b
 ·have e1 : jn rt a b = rt := by
   funext x; unfold jn
   by_cases d : rt x = rt a
   ·rw [if_pos d, d, c]
   ·rw [if_neg d]
  have e2 : ss.set (rt a) (rt b : Int) = ss := by
   have := h.self a ha
   apply List.ext_getElem?
   intro j
   by_cases d : rt a = j
   ·subst d; rw [List.getElem?_set_self (by rw [h.len]; exact la), this, c]
   ·rw [List.getElem?_set_ne d]
  rw [e1, e2]; exact ⟨dp, h⟩
 ·refine ⟨fun x => if rt x = rt a then dp x + dp (rt b) + 1 else dp x, ?_⟩
  have jb : ∀ x, rt x ≠ rt a → jn rt a b x = rt x := fun x hx => if_neg hx
  have ja : ∀ x, rt x = rt a → jn rt a b x = rt b := fun x hx => if_pos hx
  have ib := h.idem b hb
  have ia := h.idem a ha
  have jrb : jn rt a b (rt b) = rt b := by rw [jb _ (by rw [ib]; exact fun e => c e.symm), ib]
  refine ⟨by rw [List.length_set]; exact h.len, fun j hj => ?_, fun j hj => ?_, fun j hj => ?_, fun j hj => ?_⟩
  ·by_cases d : j = rt a
   ·subst d
    refine ⟨rt b, lb, by rw [List.getElem?_set_self (by rw [h.len]; exact hj)], by rw [jrb, ja _ ia], fun _ => ?_, fun e => absurd e.symm c⟩
    simp only [ib, ia, if_neg (fun e => c (Eq.symm e) : ¬ rt b = rt a), if_pos]
    omega
   ·obtain ⟨p, a1, a2, a3, a4, a5⟩ := h.par j hj
    refine ⟨p, a1, by rw [List.getElem?_set_ne (fun e => d e.symm)]; exact a2, by unfold jn; rw [a3], fun e => ?_, fun e => ?_⟩
    ·have := a4 e
     simp only [a3]
     split <;> omega
    ·have e5 := a5 e
     rw [jb _ (by rw [e5]; exact d), e5]
  ·by_cases d : rt j = rt a
   ·rw [ja _ d]; exact lb
   ·rw [jb _ d]; exact h.lt j hj
  ·by_cases d : rt j = rt a
   ·rw [ja _ d, List.getElem?_set_ne c]; exact h.self b hb
   ·rw [jb _ d, List.getElem?_set_ne (fun e => d e.symm)]; exact h.self j hj
  ·by_cases d : rt j = rt a
   ·rw [ja _ d, jrb]
   ·rw [jb _ d, jb _ (by rw [h.idem j hj]; exact d), h.idem j hj]
theorem qiX {n : Nat} (hn : n ≤ 1000000000000000000) {rt dp : Nat → Nat} {ss : List Int} (h : UF n ss rt dp) {a b : Nat} (ha : a < n) (hb : b < n) :
  ∃ s2 dp', UF n s2 (jn rt a b) dp' ∧ Rn (fun k => qY k n (a : Int) (b : Int) ss) (decide (rt a ≠ rt b), s2) := by
 obtain ⟨s1, h1, h2⟩ := qiW hn h ha
 obtain ⟨s2, h3, h4⟩ := qiW hn h1 hb
 obtain ⟨dp', h5⟩ := h3.join ha hb
 refine ⟨_, dp', h5, Rn.up (f := fun k => qY k n (a : Int) (b : Int) ss) ?_⟩
 show Rn (fun k => qd8 k _ _ _ _) _
 unfold qd8
 have la := h.lt a ha
 refine Rn.bind h2 (Rn.bind h4 (Rn.t (by simp; omega) (Rn.at (x := ((rt a : Nat) : Int)) (by simp only [Int.toNat_natCast, Nat.zero_add]; exact h3.self a ha) (Rn.const ?_))))
 simp only [Int.toNat_natCast, Nat.zero_add]
 congr 2
 by_cases c : rt a = rt b
 ·simp [c]
 ·have : ¬ ((rt a : Nat) : Int) = ((rt b : Nat) : Int) := by omega
  simp [c, this]
theorem qmN (n : Nat) (hn : n ≤ 1000000000) : ∀ (d i : Nat) (ss : List Int), i + d = n → ss.length = n → (∀ j, j < i → ss[j]? = some (j : Int)) →
  ∃ s2, s2.length = n ∧ (∀ j, j < n → s2[j]? = some (j : Int)) ∧ Rl (fun k q => qcj k q n n (i : Int) ss) (n, s2) := by
 intro d
 induction d with
 | zero =>
  intro i ss e hl h
  refine ⟨ss, hl, fun j hj => h j (by omega), Rl.up (f := fun k q => qcj k q n n (i : Int) ss) ?_⟩
  show Rl (fun k q => qdm k (qcj k q) _ _ _ _) _
  unfold qdm
  exact Rl.f (by first | omega | (simp only [decide_eq_true_eq, decide_eq_false_iff_not, Int.toNat_natCast, beq_iff_eq, bne_iff_ne, ne_eq, Int.not_lt, Int.not_le, ge_iff_le, gt_iff_lt, beq_eq_false_iff_ne, Nat.zero_add]; omega)) (Rl.pure _)
 | succ d ih =>
  intro i ss e hl h
  obtain ⟨s2, a1, a2, a3⟩ := ih (i + 1) (ss.set i (i : Int)) (by omega) (by rw [List.length_set]; exact hl) (fun j hj => by
   by_cases c : i = j
   ·subst c; rw [List.getElem?_set_self (by omega)]
   ·rw [List.getElem?_set_ne c]; exact h j (by omega))
  refine ⟨s2, a1, a2, Rl.up (f := fun k q => qcj k q n n (i : Int) ss) ?_⟩
  show Rl (fun k q => qdm k (qcj k q) _ _ _ _) _
  unfold qdm
  rw [qf (x := (i : Int) + 1) (by omega), Int.toNat_natCast, Nat.zero_add]
  exact Rl.t (by first | omega | (simp only [decide_eq_true_eq, decide_eq_false_iff_not, Int.toNat_natCast, beq_iff_eq, bne_iff_ne, ne_eq, Int.not_lt, Int.not_le, ge_iff_le, gt_iff_lt, beq_eq_false_iff_ne, Nat.zero_add]; omega)) (Rl.t (by omega) (Rl.at (getD_some 0 (by omega)) a3))
theorem UF.new {n : Nat} {ss : List Int} (hl : ss.length = n) (h : ∀ j, j < n → ss[j]? = some (j : Int)) : UF n ss id (fun _ => 0) :=
 ⟨hl, fun i hi => ⟨i, hi, h i hi, rfl, fun e => absurd rfl e, fun _ => rfl⟩, fun i hi => hi, fun i hi => h i hi, fun i hi => rfl⟩
theorem qkf (n : Nat) (hn : n ≤ 1000000000) : ∃ ss, UF n ss id (fun _ => 0) ∧ Rn (fun k => qef k n) (n, ss) := by
 obtain ⟨s2, a1, a2, a3⟩ := qmN n hn n 0 (List.replicate n 0) (by omega) (by simp) (fun j hj => absurd hj (by omega))
 refine ⟨s2, UF.new a1 a2, Rn.up (f := fun k => qef k n) ?_⟩
 show Rn (fun k => qgH k _) _
 unfold qgH
 rw [Int.toNat_natCast]
 exact Rn.t (by omega) (Rn.bind a3.diag (Rn.pure _))
def flo (rt : Nat → Nat) : Nat → List Int
 | 0 => []
 | i + 1 => if rt i = rt 0 then flo rt i else flo rt i ++ [(i : Int)]
theorem qiY (rt : Nat → Nat) : ∀ i, (flo rt i).length ≤ i
 | 0 => Nat.le_refl _
 | i + 1 => by
  have := qiY rt i
  unfold flo
  split
  ·omega
  ·rw [List.length_append]; simp only [List.length_singleton]; omega
theorem qnU {n : Nat} (hn : n ≤ 1000000000) {rt dp : Nat → Nat} : ∀ (d i : Nat) (ss : List Int), UF n ss rt dp → i + d = n →
  ∃ s2, Rl (fun k q => qb7 k q n (flo rt i).length n (i : Int) ss (flo rt i)) ((flo rt n).length, s2, flo rt n) := by
 intro d
 induction d with
 | zero =>
  intro i ss h e
  obtain rfl : i = n := by omega
  refine ⟨ss, Rl.up (f := fun k q => qb7 k q i (flo rt i).length i (i : Int) ss (flo rt i)) ?_⟩
  show Rl (fun k q => qdA k (qb7 k q) _ _ _ _ _ _) _
  unfold qdA
  exact Rl.f (by first | omega | (simp only [decide_eq_true_eq, decide_eq_false_iff_not, Int.toNat_natCast, beq_iff_eq, bne_iff_ne, ne_eq, Int.not_lt, Int.not_le, ge_iff_le, gt_iff_lt, beq_eq_false_iff_ne, Nat.zero_add]; omega)) (Rl.pure _)
 | succ d ih =>
  intro i ss h e
  obtain ⟨s1, h1, h2⟩ := qiW (by omega) h (show i < n by omega)
  obtain ⟨s2, h3, h4⟩ := qiW (by omega) h1 (show 0 < n by omega)
  obtain ⟨s3, h5⟩ := ih (i + 1) s2 h3 (by omega)
  have hlen := qiY rt i
  refine ⟨s3, Rl.up (f := fun k q => qb7 k q n (flo rt i).length n (i : Int) ss (flo rt i)) ?_⟩
  show Rl (fun k q => qdA k (qb7 k q) _ _ _ _ _ _) _
  unfold qdA
  rw [qf (x := (i : Int) + 1) (by omega)]
  refine Rl.t (by first | omega | (simp only [decide_eq_true_eq, decide_eq_false_iff_not, Int.toNat_natCast, beq_iff_eq, bne_iff_ne, ne_eq, Int.not_lt, Int.not_le, ge_iff_le, gt_iff_lt, beq_eq_false_iff_ne, Nat.zero_add]; omega)) (Rl.bind h2 (Rl.bind h4 ?_))
  have e1 : List.take 1 [(i : Int)] = [(i : Int)] := rfl
  by_cases c : rt i = rt 0
  ·have ef : flo rt (i + 1) = flo rt i := if_pos c
   rw [ef] at h5
   exact Rl.f (by simp [c]) h5
  ·have ef : flo rt (i + 1) = flo rt i ++ [(i : Int)] := if_neg c
   rw [ef] at h5
   have cc : ¬ ((rt i : Nat) : Int) = ((rt 0 : Nat) : Int) := by omega
   refine Rl.t (by simp [cc]) (Rl.t (Nat.le_refl _) (Rl.t (by rw [e1]; simp only [List.length_singleton]; omega) ?_))
   rw [e1, List.take_length]
   rw [List.length_append] at h5
   exact h5
abbrev Dv := Int × ByteArray × List Int × Int × (Int × Int) × (Int × List (Int × Int) × List Int) × ByteArray × Int × List (Int × Int) × List (Int × Int)
def qiz : ByteArray := ByteArray.mk (List.toArray [101, 103, 116])
structure OkD (n : Nat) (d : Dv) : Prop where
 rng : ∀ i, i < d.2.2.1.length → 0 ≤ d.2.2.1.getD i 0 ∧ d.2.2.1.getD i 0 < n
 two : 2 ≤ d.2.2.1.length
 four : 0 ≤ qbX qiz d.1 → 4 ≤ d.2.2.1.length
def nd (d : Dv) (i : Nat) : Nat := (d.2.2.1.getD i 0).toNat
theorem OkD.at {n : Nat} {d : Dv} (h : OkD n d) {i : Nat} (hi : i < d.2.2.1.length) : d.2.2.1[i]? = some ((nd d i : Nat) : Int) ∧ nd d i < n := by
 obtain ⟨h1, h2⟩ := h.rng i hi
 have e := getD_some (l := d.2.2.1) (0 : Int) hi
 unfold nd
 exact ⟨by rw [e]; congr 1; omega, by omega⟩
def tie (first : ByteArray) (rt : Nat → Nat) (d : Dv) : Nat → Nat :=
 if 0 ≤ qbX qiz d.1 then jn (if 0 ≤ qbX first d.1 then jn rt (nd d 0) (nd d 1) else rt) (nd d 2) (nd d 3) else if 0 ≤ qbX first d.1 then jn rt (nd d 0) (nd d 1) else rt
theorem qck (s : ByteArray) (c : Int) : Rn (fun k => qas k s c) (qbX s c) := by
 refine Rn.up (f := fun k => qas k s c) ?_
 show Rn (fun k => qeI k s c) _
 unfold qeI
 exact Rn.pure _
theorem qnV {n : Nat} (hn : n ≤ 1000000000) (first : ByteArray) (f0 : List ByteArray) (f1 : List Dv) (f2 f3 f4 : Int) (hl : f1.length ≤ 1000000000) (hd : ∀ d ∈ f1, OkD n d) :
  ∀ (D i : Nat) (ss : List Int) (rt dp : Nat → Nat), UF n ss rt dp → i + D = f1.length →
  ∃ s2 dp', UF n s2 ((f1.drop i).foldl (tie first) rt) dp' ∧ Rl (fun k q => qbF k q n first f1 f1.length (i : Int) f0 f1 f2 f3 f4 ss) (n, f0, f1, f2, f3, f4, s2) := by
 intro D
 induction D with
 | zero =>
  intro i ss rt dp h e
  obtain rfl : i = f1.length := by omega
  refine ⟨ss, dp, by rw [List.drop_length]; exact h, Rl.up (f := fun k q => qbF k q n first f1 f1.length (f1.length : Int) f0 f1 f2 f3 f4 ss) ?_⟩
  show Rl (fun k q => qbP k (qbF k q) _ _ _ _ _ _ _ _ _ _ _) _
  unfold qbP
  exact Rl.f (by first | omega | (simp only [decide_eq_true_eq, decide_eq_false_iff_not, Int.toNat_natCast, beq_iff_eq, bne_iff_ne, ne_eq, Int.not_lt, Int.not_le, ge_iff_le, gt_iff_lt, beq_eq_false_iff_ne, Nat.zero_add]; omega)) (Rl.pure _)
 | succ D ih =>
  intro i ss rt dp h e
  have hi : i < f1.length := by omega
  have eg : f1[i]? = some f1[i] := List.getElem?_eq_getElem hi
  have edr : f1.drop i = f1[i] :: f1.drop (i + 1) := List.drop_eq_getElem_cons hi
  have ok := hd f1[i] (List.getElem_mem hi)
  generalize f1[i] = d at eg edr ok
  rw [edr, List.foldl_cons]
  have up : ∀ o, Rl (fun k q => qbP k (qbF k q) n first f1 f1.length (i : Int) f0 f1 f2 f3 f4 ss) o → Rl (fun k q => qbF k q n first f1 f1.length (i : Int) f0 f1 f2 f3 f4 ss) o := fun o h => Rl.up (f := fun k q => qbF k q n first f1 f1.length (i : Int) f0 f1 f2 f3 f4 ss) h
  have ew : IntKind.i64.wrap ((i : Int) + 1) = ((i + 1 : Nat) : Int) := by rw [qf (by omega)]; omega
  have two := ok.two
  obtain ⟨g0, l0⟩ := ok.at (i := 0) (by omega)
  obtain ⟨g1, l1⟩ := ok.at (i := 1) (by omega)
  by_cases c1 : 0 ≤ qbX first d.1
  ·obtain ⟨s1, dp1, h1, h2⟩ := qiX (by omega) h l0 l1
   by_cases c2 : 0 ≤ qbX qiz d.1
   ·have four := ok.four c2
    obtain ⟨g2, l2⟩ := ok.at (i := 2) (by omega)
    obtain ⟨g3, l3⟩ := ok.at (i := 3) (by omega)
    obtain ⟨s3, dp3, h3, h4⟩ := qiX (by omega) h1 l2 l3
    have et : tie first rt d = jn (jn rt (nd d 0) (nd d 1)) (nd d 2) (nd d 3) := by unfold tie; rw [if_pos c2, if_pos c1]
    rw [et]
    obtain ⟨s4, dp4, h5, h6⟩ := ih (i + 1) s3 _ dp3 h3 (by omega)
    refine ⟨s4, dp4, h5, up _ ?_⟩
    unfold qbP
    rw [ew]
    exact Rl.t (by first | omega | (simp only [decide_eq_true_eq, decide_eq_false_iff_not, Int.toNat_natCast, beq_iff_eq, bne_iff_ne, ne_eq, Int.not_lt, Int.not_le, ge_iff_le, gt_iff_lt, beq_eq_false_iff_ne, Nat.zero_add]; omega)) (Rl.t (by first | omega | (simp only [decide_eq_true_eq, decide_eq_false_iff_not, Int.toNat_natCast, beq_iff_eq, bne_iff_ne, ne_eq, Int.not_lt, Int.not_le, ge_iff_le, gt_iff_lt, beq_eq_false_iff_ne, Nat.zero_add]; omega)) (Rl.at (by rw [Int.toNat_natCast]; exact eg) (Rl.bind (qck _ _) (Rl.t (decide_eq_true c1) (Rl.at g0 (Rl.at g1 (Rl.bind h2 (Rl.bind (qck _ _) (Rl.t (decide_eq_true c2) (Rl.at g2 (Rl.at g3 (Rl.bind h4 h6))))))))))))
   ·have et : tie first rt d = jn rt (nd d 0) (nd d 1) := by unfold tie; rw [if_neg c2, if_pos c1]
    rw [et]
    obtain ⟨s4, dp4, h5, h6⟩ := ih (i + 1) s1 _ dp1 h1 (by omega)
    refine ⟨s4, dp4, h5, up _ ?_⟩
    unfold qbP
    rw [ew]
    exact Rl.t (by first | omega | (simp only [decide_eq_true_eq, decide_eq_false_iff_not, Int.toNat_natCast, beq_iff_eq, bne_iff_ne, ne_eq, Int.not_lt, Int.not_le, ge_iff_le, gt_iff_lt, beq_eq_false_iff_ne, Nat.zero_add]; omega)) (Rl.t (by first | omega | (simp only [decide_eq_true_eq, decide_eq_false_iff_not, Int.toNat_natCast, beq_iff_eq, bne_iff_ne, ne_eq, Int.not_lt, Int.not_le, ge_iff_le, gt_iff_lt, beq_eq_false_iff_ne, Nat.zero_add]; omega)) (Rl.at (by rw [Int.toNat_natCast]; exact eg) (Rl.bind (qck _ _) (Rl.t (decide_eq_true c1) (Rl.at g0 (Rl.at g1 (Rl.bind h2 (Rl.bind (qck _ _) (Rl.f (fun e => c2 (of_decide_eq_true e)) h6)))))))))
  ·by_cases c2 : 0 ≤ qbX qiz d.1
   ·have four := ok.four c2
    obtain ⟨g2, l2⟩ := ok.at (i := 2) (by omega)
    obtain ⟨g3, l3⟩ := ok.at (i := 3) (by omega)
    obtain ⟨s3, dp3, h3, h4⟩ := qiX (by omega) h l2 l3
    have et : tie first rt d = jn rt (nd d 2) (nd d 3) := by unfold tie; rw [if_pos c2, if_neg c1]
    rw [et]
    obtain ⟨s4, dp4, h5, h6⟩ := ih (i + 1) s3 _ dp3 h3 (by omega)
    refine ⟨s4, dp4, h5, up _ ?_⟩
    unfold qbP
    rw [ew]
    exact Rl.t (by first | omega | (simp only [decide_eq_true_eq, decide_eq_false_iff_not, Int.toNat_natCast, beq_iff_eq, bne_iff_ne, ne_eq, Int.not_lt, Int.not_le, ge_iff_le, gt_iff_lt, beq_eq_false_iff_ne, Nat.zero_add]; omega)) (Rl.t (by first | omega | (simp only [decide_eq_true_eq, decide_eq_false_iff_not, Int.toNat_natCast, beq_iff_eq, bne_iff_ne, ne_eq, Int.not_lt, Int.not_le, ge_iff_le, gt_iff_lt, beq_eq_false_iff_ne, Nat.zero_add]; omega)) (Rl.at (by rw [Int.toNat_natCast]; exact eg) (Rl.bind (qck _ _) (Rl.f (fun e => c1 (of_decide_eq_true e)) (Rl.bind (qck _ _) (Rl.t (decide_eq_true c2) (Rl.at g2 (Rl.at g3 (Rl.bind h4 h6)))))))))
   ·have et : tie first rt d = rt := by unfold tie; rw [if_neg c2, if_neg c1]
    rw [et]
    obtain ⟨s4, dp4, h5, h6⟩ := ih (i + 1) ss _ dp h (by omega)
    refine ⟨s4, dp4, h5, up _ ?_⟩
    unfold qbP
    rw [ew]
    exact Rl.t (by first | omega | (simp only [decide_eq_true_eq, decide_eq_false_iff_not, Int.toNat_natCast, beq_iff_eq, bne_iff_ne, ne_eq, Int.not_lt, Int.not_le, ge_iff_le, gt_iff_lt, beq_eq_false_iff_ne, Nat.zero_add]; omega)) (Rl.t (by first | omega | (simp only [decide_eq_true_eq, decide_eq_false_iff_not, Int.toNat_natCast, beq_iff_eq, bne_iff_ne, ne_eq, Int.not_lt, Int.not_le, ge_iff_le, gt_iff_lt, beq_eq_false_iff_ne, Nat.zero_add]; omega)) (Rl.at (by rw [Int.toNat_natCast]; exact eg) (Rl.bind (qck _ _) (Rl.f (fun e => c1 (of_decide_eq_true e)) (Rl.bind (qck _ _) (Rl.f (fun e => c2 (of_decide_eq_true e)) h6))))))
def LK (mode : Int) (d : Dv) : Prop := d.1 = 118 ∨ d.1 = 108 ∧ mode = 1
instance (mode : Int) (d : Dv) : Decidable (LK mode d) := by unfold LK; infer_instance
def lps (mode : Int) : List Dv → Nat → (Nat → Nat) → List Int
 | [], _, _ => []
 | d :: l, i, rt => if LK mode d then (if rt (nd d 0) = rt (nd d 1) then (i : Int) :: lps mode l (i + 1) (jn rt (nd d 0) (nd d 1)) else lps mode l (i + 1) (jn rt (nd d 0) (nd d 1))) else lps mode l (i + 1) rt
theorem qxb {n : Nat} (hn : n ≤ 1000000000) (mode : Int) (f1 : List Dv) (hl : f1.length ≤ 1000000000) (hd : ∀ d ∈ f1, OkD n d) :
  ∀ (D i : Nat) (ss : List Int) (rt dp : Nat → Nat) (ls : List Int), UF n ss rt dp → i + D = f1.length → ls.length ≤ i →
  ∃ s2, Rl (fun k q => qba k q mode n ls.length f1 f1.length (i : Int) ss ls) ((ls ++ lps mode (f1.drop i) i rt).length, s2, ls ++ lps mode (f1.drop i) i rt) := by
 intro D
 induction D with
 | zero =>
  intro i ss rt dp ls h e hls
  obtain rfl : i = f1.length := by omega
  refine ⟨ss, ?_⟩
  rw [List.drop_length]
  show Rl _ ((ls ++ []).length, ss, ls ++ [])
  rw [List.append_nil]
  refine Rl.up (f := fun k q => qba k q mode n ls.length f1 f1.length (f1.length : Int) ss ls) ?_
  show Rl (fun k q => qb8 k (qba k q) _ _ _ _ _ _ _ _) _
  unfold qb8
  exact Rl.f (by first | omega | (simp only [decide_eq_true_eq, decide_eq_false_iff_not, Int.toNat_natCast, beq_iff_eq, bne_iff_ne, ne_eq, Int.not_lt, Int.not_le, ge_iff_le, gt_iff_lt, beq_eq_false_iff_ne, Nat.zero_add]; omega)) (Rl.pure _)
 | succ D ih =>
  intro i ss rt dp ls h e hls
  have hi : i < f1.length := by omega
  have eg : f1[i]? = some f1[i] := List.getElem?_eq_getElem hi
  have edr : f1.drop i = f1[i] :: f1.drop (i + 1) := List.drop_eq_getElem_cons hi
  have ok := hd f1[i] (List.getElem_mem hi)
  generalize f1[i] = d at eg edr ok
  rw [edr]
  have up : ∀ s2 o, Rl (fun k q => qb8 k (qba k q) mode n ls.length f1 f1.length (i : Int) ss ls) (o.length, s2, o) → Rl (fun k q => qba k q mode n ls.length f1 f1.length (i : Int) ss ls) (o.length, s2, o) := fun s2 o h => Rl.up (f := fun k q => qba k q mode n ls.length f1 f1.length (i : Int) ss ls) h
  have ew : IntKind.i64.wrap ((i : Int) + 1) = ((i + 1 : Nat) : Int) := by rw [qf (by omega)]; omega
  have two := ok.two
  obtain ⟨g0, l0⟩ := ok.at (i := 0) (by omega)
  obtain ⟨g1, l1⟩ := ok.at (i := 1) (by omega)
  obtain ⟨s1, dp1, h1, h2⟩ := qiX (by omega) h l0 l1
  have e1 : List.take 1 [(i : Int)] = [(i : Int)] := rfl
  have body : LK mode d → ∃ s2, Rl (fun k q => Option.bind (qY k n ((nd d 0 : Nat) : Int) ((nd d 1 : Nat) : Int) ss) fun r3 =>
    if ((!r3.1) = true) then (if (ls.length ≤ (List.length ls)) then (if (((ls.length + (List.length (List.take 1 ((i : Int) :: [])))) * 8) ≤ 140737488355328) then qba k q mode n (ls.length + (List.length (List.take 1 ((i : Int) :: [])))) f1 f1.length (IntKind.i64.wrap ((i : Int) + 1)) r3.2 ((List.take ls.length ls) ++ (List.take 1 ((i : Int) :: []))) else none) else none)
    else qba k q mode n ls.length f1 f1.length (IntKind.i64.wrap ((i : Int) + 1)) r3.2 ls) ((ls ++ lps mode (d :: f1.drop (i + 1)) i rt).length, s2, ls ++ lps mode (d :: f1.drop (i + 1)) i rt) := by
   intro hk
   by_cases c : rt (nd d 0) = rt (nd d 1)
   ·have el : lps mode (d :: f1.drop (i + 1)) i rt = (i : Int) :: lps mode (f1.drop (i + 1)) (i + 1) (jn rt (nd d 0) (nd d 1)) := by rw [lps, if_pos hk, if_pos c]
    obtain ⟨s2, h3⟩ := ih (i + 1) s1 _ dp1 (ls ++ [(i : Int)]) h1 (by omega) (by rw [List.length_append]; simp only [List.length_singleton]; omega)
    refine ⟨s2, Rl.bind h2 (Rl.t (by simp [c]) (Rl.t (Nat.le_refl _) (Rl.t (by rw [e1]; simp only [List.length_singleton]; omega) ?_)))⟩
    rw [e1, List.take_length, ew, el]
    simp only [List.append_assoc, List.singleton_append] at h3
    rw [List.length_append] at h3
    exact h3
   ·have el : lps mode (d :: f1.drop (i + 1)) i rt = lps mode (f1.drop (i + 1)) (i + 1) (jn rt (nd d 0) (nd d 1)) := by rw [lps, if_pos hk, if_neg c]
    obtain ⟨s2, h3⟩ := ih (i + 1) s1 _ dp1 ls h1 (by omega) (by omega)
    refine ⟨s2, Rl.bind h2 (Rl.f (by simp [c]) ?_)⟩
    rw [ew, el]
    exact h3
  have skip : ¬ LK mode d → ∃ s2, Rl (fun k q => qba k q mode n ls.length f1 f1.length (IntKind.i64.wrap ((i : Int) + 1)) ss ls) ((ls ++ lps mode (d :: f1.drop (i + 1)) i rt).length, s2, ls ++ lps mode (d :: f1.drop (i + 1)) i rt) := by
   intro hk
   have el : lps mode (d :: f1.drop (i + 1)) i rt = lps mode (f1.drop (i + 1)) (i + 1) rt := by rw [lps, if_neg hk]
   obtain ⟨s2, h3⟩ := ih (i + 1) ss _ dp ls h (by omega) (by omega)
   rw [ew, el]
   exact ⟨s2, h3⟩
  by_cases c1 : d.1 = 118
  ·obtain ⟨s2, h3⟩ := body (.inl c1)
   refine ⟨s2, up _ _ ?_⟩
   unfold qb8
   exact Rl.t (by first | omega | (simp only [decide_eq_true_eq, decide_eq_false_iff_not, Int.toNat_natCast, beq_iff_eq, bne_iff_ne, ne_eq, Int.not_lt, Int.not_le, ge_iff_le, gt_iff_lt, beq_eq_false_iff_ne, Nat.zero_add]; omega)) (Rl.t (by first | omega | (simp only [decide_eq_true_eq, decide_eq_false_iff_not, Int.toNat_natCast, beq_iff_eq, bne_iff_ne, ne_eq, Int.not_lt, Int.not_le, ge_iff_le, gt_iff_lt, beq_eq_false_iff_ne, Nat.zero_add]; omega)) (Rl.at (by rw [Int.toNat_natCast]; exact eg) (Rl.f (by simp [c1]) (Rl.at g0 (Rl.at g1 h3)))))
  ·by_cases c2 : d.1 = 108
   ·by_cases c3 : mode = 1
    ·obtain ⟨s2, h3⟩ := body (.inr ⟨c2, c3⟩)
     refine ⟨s2, up _ _ ?_⟩
     unfold qb8
     exact Rl.t (by first | omega | (simp only [decide_eq_true_eq, decide_eq_false_iff_not, Int.toNat_natCast, beq_iff_eq, bne_iff_ne, ne_eq, Int.not_lt, Int.not_le, ge_iff_le, gt_iff_lt, beq_eq_false_iff_ne, Nat.zero_add]; omega)) (Rl.t (by first | omega | (simp only [decide_eq_true_eq, decide_eq_false_iff_not, Int.toNat_natCast, beq_iff_eq, bne_iff_ne, ne_eq, Int.not_lt, Int.not_le, ge_iff_le, gt_iff_lt, beq_eq_false_iff_ne, Nat.zero_add]; omega)) (Rl.at (by rw [Int.toNat_natCast]; exact eg) (Rl.t (by simp [c1]) (Rl.t (by simp [c2]) (Rl.t (by simp [c3]) (Rl.at g0 (Rl.at g1 h3)))))))
    ·obtain ⟨s2, h3⟩ := skip (fun h => h.elim c1 (fun h => c3 h.2))
     refine ⟨s2, up _ _ ?_⟩
     unfold qb8
     exact Rl.t (by first | omega | (simp only [decide_eq_true_eq, decide_eq_false_iff_not, Int.toNat_natCast, beq_iff_eq, bne_iff_ne, ne_eq, Int.not_lt, Int.not_le, ge_iff_le, gt_iff_lt, beq_eq_false_iff_ne, Nat.zero_add]; omega)) (Rl.t (by first | omega | (simp only [decide_eq_true_eq, decide_eq_false_iff_not, Int.toNat_natCast, beq_iff_eq, bne_iff_ne, ne_eq, Int.not_lt, Int.not_le, ge_iff_le, gt_iff_lt, beq_eq_false_iff_ne, Nat.zero_add]; omega)) (Rl.at (by rw [Int.toNat_natCast]; exact eg) (Rl.t (by simp [c1]) (Rl.t (by simp [c2]) (Rl.f (by simp [c3]) h3)))))
   ·obtain ⟨s2, h3⟩ := skip (fun h => h.elim c1 (fun h => c2 h.1))
    refine ⟨s2, up _ _ ?_⟩
    unfold qb8
    exact Rl.t (by first | omega | (simp only [decide_eq_true_eq, decide_eq_false_iff_not, Int.toNat_natCast, beq_iff_eq, bne_iff_ne, ne_eq, Int.not_lt, Int.not_le, ge_iff_le, gt_iff_lt, beq_eq_false_iff_ne, Nat.zero_add]; omega)) (Rl.t (by first | omega | (simp only [decide_eq_true_eq, decide_eq_false_iff_not, Int.toNat_natCast, beq_iff_eq, bne_iff_ne, ne_eq, Int.not_lt, Int.not_le, ge_iff_le, gt_iff_lt, beq_eq_false_iff_ne, Nat.zero_add]; omega)) (Rl.at (by rw [Int.toNat_natCast]; exact eg) (Rl.t (by simp [c1]) (Rl.f (by simp [c2]) h3))))
def pcs (c : UInt8) : List UInt8 → List (List UInt8)
 | [] => [[]]
 | x :: r => if x = c then [] :: pcs c r else ((x :: (pcs c r).headD []) :: (pcs c r).drop 1)
theorem qxc (c : UInt8) : ∀ l, pcs c l ≠ []
 | [] => by simp [pcs]
 | x :: r => by unfold pcs; split <;> simp
theorem qnW (c : UInt8) : ∀ l, (pcs c l).length = Go.Lib.countByte l c + 1
 | [] => rfl
 | x :: r => by
  have ih := qnW c r
  unfold Go.Lib.countByte at ih ⊢
  unfold pcs
  by_cases h : x = c
  ·subst h
   rw [if_pos rfl, List.length_cons, ih, List.count_cons_self]
  ·rw [if_neg h, List.length_cons, List.length_drop, ih, List.count_cons_of_ne h]
   omega
theorem qmO (c : UInt8) : ∀ l, Go.Lib.countByte l c = 0 → pcs c l = [l]
 | [], _ => rfl
 | x :: r, h => by
  unfold Go.Lib.countByte at h
  by_cases e : x = c
  ·subst e; rw [List.count_cons_self] at h; omega
  ·rw [List.count_cons_of_ne e] at h
   unfold pcs
   rw [if_neg e, qmO c r h]
   rfl
theorem qnX (c : UInt8) : ∀ (l : List UInt8), 0 < Go.Lib.countByte l c → ∃ o : Nat, Go.Lib.indexByte l c = (o : Int) ∧ o < l.length ∧ pcs c l = l.take o :: pcs c (l.drop (o + 1)) ∧ Go.Lib.countByte l c = Go.Lib.countByte (l.drop (o + 1)) c + 1
 | [], h => by simp [Go.Lib.countByte] at h
 | x :: r, h => by
  unfold Go.Lib.countByte at h
  by_cases e : x = c
  ·subst e
   refine ⟨0, ?_, by simp, ?_, ?_⟩
   ·unfold Go.Lib.indexByte; simp
   ·rw [pcs, if_pos rfl]; simp
   ·unfold Go.Lib.countByte; rw [List.count_cons_self]; simp
  ·rw [List.count_cons_of_ne e] at h
   obtain ⟨o, h1, h2, h3, h4⟩ := qnX c r h
   refine ⟨o + 1, ?_, by simp; omega, ?_, ?_⟩
   ·unfold Go.Lib.indexByte
    have e1 : (x == c) = false := by simpa using e
    have e2 : ((o : Int) == -1) = false := by rw [beq_eq_false_iff_ne]; omega
    rw [h1, e1, e2]
    simp
   ·rw [pcs, if_neg e, h3]; simp
   ·unfold Go.Lib.countByte at h4 ⊢
    rw [List.count_cons_of_ne e, h4]; simp
abbrev dl (s : ByteArray) : List UInt8 := s.data.toList
theorem qcL (s : ByteArray) : (dl s).length = s.size := by rw [Array.length_toList]; rfl
theorem qkg (s : ByteArray) (a b : Nat) : dl (s.extract a b) = ((dl s).take b).drop a := by
 unfold dl
 rw [ByteArray.data_extract, Array.toList_extract, List.extract_eq_take_drop, List.take_drop]
 by_cases h : a ≤ b
 ·rw [show a + (b - a) = b by omega]
 ·rw [List.drop_eq_nil_of_le (by rw [List.length_take]; omega), List.drop_eq_nil_of_le (by rw [List.length_take]; omega)]
def qeM (c : UInt8) : ByteArray := ByteArray.mk (List.toArray (c :: []))
theorem qqz (c : UInt8) : (qeM c).size = 1 := rfl
theorem qqA (s : ByteArray) (c : UInt8) : Rn (fun k => qdb k s (qeM c)) (Go.Lib.indexByte (dl s) c) := by
 refine Rn.up (f := fun k => qdb k s (qeM c)) ?_
 show Rn (fun k => qgh k s (qeM c)) _
 unfold qgh
 exact Rn.t rfl (Rn.pure _)
theorem qqB (s : ByteArray) (c : UInt8) : Rn (fun k => qda k s (qeM c)) ((Go.Lib.countByte (dl s) c : Nat) : Int) := by
 refine Rn.up (f := fun k => qda k s (qeM c)) ?_
 show Rn (fun k => qgg k s (qeM c)) _
 unfold qgg
 exact Rn.t rfl (Rn.pure _)
theorem qpb (c : UInt8) : ∀ (d : Nat) (s : ByteArray) (i : Nat) (as1 : List ByteArray), Go.Lib.countByte (dl s) c = d → s.size ≤ 1000000000000000 → as1.length = i + d + 1 → i + d + 1 ≤ 1000000000000000 →
  ∃ s' as', Rl (fun k q => qaA k q s (qeM c) 0 ((i + d : Nat) : Int) (i + d + 1) (i : Int) as1) (s', i + d + 1, ((i + d : Nat) : Int), as') ∧ as'.length = i + d + 1 ∧ (as'.take (i + d)).map dl ++ [dl s'] = (as1.take i).map dl ++ pcs c (dl s) := by
 intro d
 induction d with
 | zero =>
  intro s i as1 hc hs ha hi
  refine ⟨s, as1, Rl.up (f := fun k q => qaA k q s (qeM c) 0 ((i + 0 : Nat) : Int) (i + 0 + 1) (i : Int) as1) ?_, ha, by rw [qmO c _ hc]; rfl⟩
  show Rl (fun k q => qcc k (qaA k q) _ _ _ _ _ _ _) _
  unfold qcc
  exact Rl.f (by rw [decide_eq_true_eq]; omega) (Rl.pure _)
 | succ d ih =>
  intro s i as1 hc hs ha hi
  obtain ⟨o, h1, h2, h3, h4⟩ := qnX c (dl s) (by omega)
  rw [qcL] at h2
  have e1 : dl (s.extract (o + 1) s.size) = (dl s).drop (o + 1) := by rw [qkg, List.take_of_length_le (by rw [qcL]; omega)]
  have e2 : dl (s.extract 0 o) = (dl s).take o := by rw [qkg]; rfl
  have e3 : (s.extract (o + 1) s.size).size ≤ s.size := by rw [← qcL, e1, List.length_drop, qcL]; omega
  obtain ⟨s', as', b1, b2, b3⟩ := ih (s.extract (o + 1) s.size) (i + 1) (as1.set i (s.extract 0 o)) (by rw [e1]; omega) (by omega) (by rw [List.length_set]; omega) (by omega)
  rw [show i + 1 + d = i + (d + 1) by omega] at b1 b2 b3
  refine ⟨s', as', Rl.up (f := fun k q => qaA k q s (qeM c) 0 ((i + (d + 1) : Nat) : Int) (i + (d + 1) + 1) (i : Int) as1) ?_, b2, ?_⟩
  ·show Rl (fun k q => qcc k (qaA k q) _ _ _ _ _ _ _) _
   unfold qcc
   have w1 : IntKind.i64.wrap ((o : Int) + 0) = (o : Int) := by rw [qf (by omega)]; omega
   have w2 : IntKind.i64.wrap ((o : Int) + (((qeM c).size : Nat) : Int)) = ((o + 1 : Nat) : Int) := by rw [qqz, qf (by omega)]; omega
   have hi1 := qqA s c
   rw [h1] at hi1
   refine Rl.t (by rw [decide_eq_true_eq]; omega) (Rl.bind hi1 (Rl.f (by rw [decide_eq_true_eq]; omega) ?_))
   rw [w1, w2, Nat.zero_add, Int.toNat_natCast, Int.toNat_natCast, Int.toNat_natCast, qf (x := (i : Int) + 1) (by omega)]
   exact Rl.t (by omega) (Rl.t (by omega) (Rl.at (x := as1[i]'(by omega)) (List.getElem?_eq_getElem (by omega)) (Rl.t (by omega) b1)))
  ·rw [b3, e1, h3, List.take_set]
   rw [show (List.take (i + 1) as1).set i (s.extract 0 o) = List.take i as1 ++ [s.extract 0 o] by
    rw [List.take_add_one, List.getElem?_eq_getElem (show i < as1.length by omega), List.set_append_right _ _ (by rw [List.length_take]; omega), List.length_take]
    rw [show i - min i as1.length = 0 by omega]
    rfl]
   rw [List.map_append, List.map_singleton, e2, List.append_assoc]
   rfl
theorem qmP (s : ByteArray) (c : UInt8) : Go.Lib.countByte (dl s) c ≤ s.size := by
 rw [← qcL]; exact List.count_le_length
theorem qqC (s : ByteArray) (c : UInt8) (hs : s.size ≤ 1000000000000) : ∃ l : List ByteArray, Rn (fun k => qeU k s (qeM c)) l ∧ l.map dl = pcs c (dl s) := by
 have hcl := qmP s c
 obtain ⟨s', as', b1, b2, b3⟩ := qpb c (Go.Lib.countByte (dl s) c) s 0 (List.replicate (Go.Lib.countByte (dl s) c + 1) (ByteArray.mk (List.toArray []))) rfl (by omega) (by simp) (by omega)
 rw [Nat.zero_add] at b1 b2 b3
 generalize hn : Go.Lib.countByte (dl s) c = n at b1 b2 b3 hcl
 refine ⟨as'.take n ++ [s'], ?_, by rw [List.map_append, List.map_singleton, b3]; rfl⟩
 refine Rn.up (f := fun k => qeU k s (qeM c)) ?_
 show Rn (fun k => qgi k s (qeM c)) _
 unfold qgi
 refine Rn.bind ?_ (Rn.pure _)
 refine Rn.up (f := fun k => qe3 k s (qeM c) 0 (-1)) ?_
 show Rn (fun k => qe2 k s (qeM c) 0 (-1)) _
 unfold qe2
 have hc := qqB s c
 rw [hn] at hc
 refine Rn.f (by decide) (Rn.f (by simp [qeM]) (Rn.t (by decide) (Rn.bind hc ?_)))
 have w1 : min (IntKind.i64.wrap ((n : Int) + 1)) (IntKind.i64.wrap (((s.size : Nat) : Int) + 1)) = ((n + 1 : Nat) : Int) := by
  rw [qf (by omega), qf (by omega)]; omega
 have w2 : IntKind.i64.wrap (((n + 1 : Nat) : Int) - 1) = (n : Int) := by rw [qf (by omega)]; omega
 have w3 : IntKind.i64.wrap ((n : Int) + 1) = ((n + 1 : Nat) : Int) := by rw [qf (by omega)]; omega
 rw [w1, w2, Int.toNat_natCast]
 refine Rn.t (by omega) (Rn.bind b1.diag ?_)
 show Rn (fun k => if (((0 : Int) ≤ (n : Int)) ∧ ((n : Int) < ((n + 1 : Nat) : Int))) then _ else _) _
 refine Rn.t (by omega) ?_
 have es : (as'.set n s') = as'.take n ++ [s'] := by
  rw [List.set_eq_take_append_cons_drop, if_pos (by omega), List.drop_eq_nil_of_le (by omega)]
 have el : (as'.take n ++ [s']).length = n + 1 := by rw [List.length_append, List.length_take]; simp; omega
 simp only [Int.toNat_natCast, Nat.zero_add, w3, es, el]
 refine Rn.at (x := as'[n]'(by omega)) (List.getElem?_eq_getElem (by omega)) (Rn.t (by omega) (Rn.t (by omega) (Rn.const (congrArg some ?_))))
 exact List.take_of_length_le (by omega)
theorem qmQ (F : Nat → Nat → List ByteArray → Int → Int → Option (Int ⊕ Unit)) (G : Nat → ByteArray → Option Bool) (ok : ByteArray → Bool) (s : List ByteArray) (hs : s.length ≤ 1000000000000000000)
  (hF : ∀ k q x x1, F k (q + 1) s x x1 = if ((decide (x1 < x)) = true) then (if ((0 : Int) ≤ x1) then Option.bind s[x1.toNat]? (fun x4 => Option.bind (G k x4) (fun r4 => if r4 = true then some (Sum.inl x1) else F k q s x (IntKind.i64.wrap (x1 + 1)))) else none) else some (Sum.inr ()))
  (hG : ∀ p ∈ s, Rn (fun k => G k p) (!ok p)) : ∃ o, Rl (fun k q => F k q s s.length 0) o ∧ (s.all ok = true ∧ o = .inr () ∨ s.all ok = false ∧ ∃ a : Int, 0 ≤ a ∧ o = .inl a) := by
 obtain ⟨o, h1, h2⟩ := qds s.length 0 (fun k q i => F k q s s.length i) () (fun a => 0 ≤ a) (fun j => ∀ p, s[j]? = some p → ok p = true) (by
   refine Rl.up (f := fun k q => F k q s s.length s.length) ?_
   simp only [hF]
   exact Rl.f (by simp) (Rl.pure _)) (by
   intro i hs0 hi hok o ho
   refine Rl.up (f := fun k q => F k q s s.length (i : Int)) ?_
   simp only [hF]
   have eg := List.getElem?_eq_getElem hi
   have hg := hG _ (List.getElem_mem hi)
   rw [hok _ eg] at hg
   refine Rl.t (by rw [decide_eq_true_eq]; omega) (Rl.t (by omega) (Rl.at (by rw [Int.toNat_natCast]; exact eg) (Rl.bind hg (Rl.f (by decide) ?_))))
   rw [qf (x := (i : Int) + 1) (by omega)]
   exact ho) (by
   intro i hs0 hi hok
   refine ⟨(i : Int), by omega, Rl.up (f := fun k q => F k q s s.length (i : Int)) ?_⟩
   simp only [hF]
   have eg := List.getElem?_eq_getElem hi
   have hg := hG _ (List.getElem_mem hi)
   have hb : ok (s[i]'hi) = false := by
    cases hb : ok (s[i]'hi) with
    | false => rfl
    | true => exact absurd (fun p hp => by rw [eg] at hp; cases hp; exact hb) hok
   rw [hb] at hg
   exact Rl.t (by rw [decide_eq_true_eq]; omega) (Rl.t (by omega) (Rl.at (by rw [Int.toNat_natCast]; exact eg) (Rl.bind hg (Rl.t (by decide) (Rl.pure _)))))) s.length 0 (by omega) (by omega)
 have hall : s.all ok = true ↔ ∀ j, 0 ≤ j → j < s.length → ∀ p, s[j]? = some p → ok p = true := by
  rw [List.all_eq_true]
  constructor
  ·intro h j _ hj p hp; exact h p (List.mem_of_getElem? hp)
  ·intro h p hp
   obtain ⟨j, hj, e⟩ := List.mem_iff_getElem.1 hp
   exact h j (Nat.zero_le _) hj p (by rw [List.getElem?_eq_getElem hj, e])
 refine ⟨o, h1, ?_⟩
 rcases h2 with ⟨h2, rfl⟩ | ⟨h2, a, ha, rfl⟩
 ·exact .inl ⟨hall.2 h2, rfl⟩
 ·exact .inr ⟨by rw [← Bool.not_eq_true, hall]; exact h2, a, ha, rfl⟩
def qgQ (l : List UInt8) : Bool := (l.map fun b : UInt8 => ((b.toNat : Nat) : Int)).all nmB && decide (1 ≤ l.length ∧ l.length ≤ 16)
theorem qkU (s : ByteArray) : qdB s = qgQ (dl s) := by
 unfold qdB qgQ byL
 rw [qcL]
def qr6 (l : List UInt8) : Bool := decide ((pcs 46 l).length ≤ 9) && (pcs 46 l).all qgQ
def qbV (s : ByteArray) : Bool := qr6 (dl s)
theorem qqD (l : List ByteArray) (m : List (List UInt8)) (h : l.map dl = m) : l.all qdB = m.all qgQ := by
 subst h
 rw [List.all_map]
 congr 1
theorem qng (s : ByteArray) (hs : s.size ≤ 1000000000000000000) : Rn (fun k => qgP k s) (qdB s) := by
 refine Rn.up (f := fun k => qgP k s) ?_
 show Rn (fun k => qh4 k s) _
 unfold qh4
 exact Rn.bind (qnT s hs) (Rn.pure _)
theorem qmR (c : UInt8) (n : Nat) : ∀ l : List UInt8, l.length ≤ n → ∀ p ∈ pcs c l, p.length ≤ n
 | [], _, p, hp => by simp [pcs] at hp; subst hp; simp
 | x :: r, hl, p, hp => by
  have ih := qmR c (n - 1) r (by simp at hl; omega)
  simp only [List.length_cons] at hl
  unfold pcs at hp
  split at hp
  ·rcases List.mem_cons.1 hp with rfl | hp
   ·simp
   ·have := ih p hp; omega
  ·rcases List.mem_cons.1 hp with rfl | hp
   ·have h1 : (pcs c r).headD [] ∈ pcs c r := by
     cases h : pcs c r with
     | nil => exact absurd h (qxc c r)
     | cons a b => simp
    have := ih _ h1
    simp only [List.length_cons]; omega
   ·have := ih p (List.mem_of_mem_drop hp); omega
theorem qpc {s : ByteArray} {l : List ByteArray} {c : UInt8} (h : l.map dl = pcs c (dl s)) : ∀ p ∈ l, p.size ≤ s.size := by
 intro p hp
 have : dl p ∈ pcs c (dl s) := by rw [← h]; exact List.mem_map_of_mem hp
 have := qmR c s.size (dl s) (by rw [qcL]; exact Nat.le_refl _) _ this
 rwa [qcL] at this
theorem qpd {s : ByteArray} {l : List ByteArray} {c : UInt8} (h : l.map dl = pcs c (dl s)) : l.length = (pcs c (dl s)).length ∧ l.length ≤ s.size + 1 := by
 have e : l.length = (pcs c (dl s)).length := by rw [← h, List.length_map]
 refine ⟨e, ?_⟩
 rw [e, qnW]
 have := qmP s c
 omega
theorem qjA (s : ByteArray) (hs : s.size ≤ 1000000000000) : Rn (fun k => qeV k s) (qbV s) := by
 obtain ⟨l, h1, h2⟩ := qqC s 46 hs
 obtain ⟨h3, h4⟩ := qpd h2
 refine Rn.up (f := fun k => qeV k s) ?_
 show Rn (fun k => qh5 k s) _
 unfold qh5 qbV qr6
 refine Rn.bind h1 ?_
 by_cases c : l.length ≤ 9
 ·obtain ⟨o, b1, b2⟩ := qmQ qbe qf3 qdB l (by omega) (fun _ _ _ _ => rfl) (fun p hp => by
   have := qpc h2 p hp
   refine Rn.up (f := fun k => qf3 k p) ?_
   show Rn (fun k => qg4 k p) _
   unfold qg4
   exact Rn.bind (qng p (by omega)) (Rn.pure _))
  rw [qqD l _ h2] at b2
  refine Rn.t (by rw [decide_eq_true_eq]; omega) (Rn.bind (x := !(pcs 46 (dl s)).all qgQ) ?_ (Rn.const (congrArg some ?_)))
  ·refine Rn.up (f := fun k => qa7 k l) ?_
   show Rn (fun k => qa6 k l) _
   unfold qa6
   have key : ∀ a, Rn (fun k => qc o (fun r4 => some r4) (fun r4 => some (-1))) a → Rn (fun k => qar k l) a := by
    intro a h
    refine Rn.up (f := fun k => qar k l) ?_
    show Rn (fun k => qbu k l) _
    unfold qbu
    exact Rn.bind b1.diag h
   rcases b2 with ⟨b2, rfl⟩ | ⟨b2, a, ha, rfl⟩
   ·rw [b2]; exact Rn.bind (key _ (Rn.pure _)) (Rn.pure _)
   ·rw [b2]; exact Rn.bind (key _ (Rn.pure _)) (Rn.const (congrArg some (decide_eq_true ha)))
  ·rw [decide_eq_true (by omega : (pcs 46 (dl s)).length ≤ 9), Bool.not_not, Bool.true_and]
 ·refine Rn.f (by rw [decide_eq_true_eq]; omega) (Rn.const (congrArg some ?_))
  rw [decide_eq_false (by omega : ¬ (pcs 46 (dl s)).length ≤ 9), Bool.false_and]
theorem qnY (c : UInt8) (b : List UInt8) : ∀ a : List UInt8, c ∉ a → pcs c (a ++ c :: b) = a :: pcs c b
 | [], _ => by simp [pcs]
 | x :: a, h => by
  have h1 : x ≠ c := fun e => h (by simp [e])
  have h2 := qnY c b a (fun e => h (by simp [e]))
  rw [List.cons_append, pcs, if_neg h1, h2]
  rfl
theorem qnZ (c : UInt8) : ∀ a : List UInt8, c ∉ a → pcs c a = [a]
 | [], _ => rfl
 | x :: a, h => by
  have h1 : x ≠ c := fun e => h (by simp [e])
  have h2 := qnZ c a (fun e => h (by simp [e]))
  rw [pcs, if_neg h1, h2]
  rfl
theorem qpe (s : ByteArray) (hs : s.size ≤ 1000000000000000) : ∀ (d i fr : Nat) (parts : Int), i + d = s.size → fr ≤ i → (46 : UInt8) ∉ ((dl s).take i).drop fr → 0 ≤ parts → parts ≤ i →
  Rl (fun k q => qat k q s parts (fr : Int) (i : Int)) (if (pcs 46 ((dl s).drop fr)).all qgQ = true then .inr (parts + ((pcs 46 ((dl s).drop fr)).length : Nat)) else .inl false) := by
 intro d
 induction d with
 | zero =>
  intro i fr parts e hf hd h0 h1
  have ei : i = s.size := by omega
  subst ei
  rw [List.take_of_length_le (by rw [qcL]; exact Nat.le_refl _)] at hd
  have ep := qnZ 46 _ hd
  rw [ep]
  have hx : dl (s.extract fr s.size) = (dl s).drop fr := by rw [qkg, List.take_of_length_le (by rw [qcL]; exact Nat.le_refl _)]
  have hn := qjz (s.extract fr s.size) (by have : (s.extract fr s.size).size = (dl (s.extract fr s.size)).length := (qcL _).symm; rw [this, hx, List.length_drop, qcL]; omega)
  rw [qkU, hx] at hn
  refine Rl.up (f := fun k q => qat k q s parts (fr : Int) (s.size : Int)) ?_
  show Rl (fun k q => qbj k (qat k q) _ _ _ _) _
  unfold qbj
  refine Rl.t (by simp) (Rl.f (by simp) (Rl.t (by omega) (Rl.bind (by rw [Int.toNat_natCast, Int.toNat_natCast]; exact hn) ?_)))
  by_cases c : qgQ ((dl s).drop fr) = true
  ·rw [if_pos (by simp [c]), qf (x := parts + 1) (by omega), qf (x := ((s.size : Nat) : Int) + 1) (by omega)]
   refine Rl.f (by simp [c]) ?_
   refine Rl.up (f := fun k q => qat k q s (parts + 1) (((s.size : Nat) : Int) + 1) (((s.size : Nat) : Int) + 1)) ?_
   show Rl (fun k q => qbj k (qat k q) _ _ _ _) _
   unfold qbj
   exact Rl.f (by rw [decide_eq_true_eq]; omega) (Rl.pure _)
  ·rw [if_neg (by simpa using c)]
   exact Rl.t (by simp at c; simp [c]) (Rl.pure _)
 | succ d ih =>
  intro i fr parts e hf hd h0 h1
  have hi : i < s.size := by omega
  obtain ⟨b, hb1, hb2⟩ := qs7 hi
  have hil : i < (dl s).length := by rw [qcL]; exact hi
  have hbl : (dl s)[i]'hil = b := by
   have : (dl s)[i]? = some b := by rw [Array.getElem?_toList]; exact hb1
   rw [List.getElem?_eq_getElem hil] at this
   exact Option.some.inj this
  have esp : (dl s).drop fr = ((dl s).take i).drop fr ++ b :: (dl s).drop (i + 1) := by
   conv => lhs; rw [← List.take_append_drop i (dl s)]
   rw [List.drop_append, show fr - (List.take i (dl s)).length = 0 by rw [List.length_take, qcL]; omega, List.drop_zero, List.drop_eq_getElem_cons hil, hbl]
  have w1 : IntKind.i64.wrap ((i : Int) + 1) = ((i + 1 : Nat) : Int) := by rw [qf (by omega)]; omega
  refine Rl.up (f := fun k q => qat k q s parts (fr : Int) (i : Int)) ?_
  show Rl (fun k q => qbj k (qat k q) _ _ _ _) _
  unfold qbj
  refine Rl.t (by rw [decide_eq_true_eq]; omega) (Rl.t (by rw [beq_eq_false_iff_ne]; omega) (Rl.t (by omega) (Rl.at (x := b) (by rw [Int.toNat_natCast]; exact hb1) ?_)))
  by_cases cb : b = 46
  ·subst cb
   have ep := qnY 46 ((dl s).drop (i + 1)) _ hd
   rw [← esp] at ep
   rw [ep]
   have hx : dl (s.extract fr i) = ((dl s).take i).drop fr := by rw [qkg]
   have hn := qjz (s.extract fr i) (by have : (s.extract fr i).size = (dl (s.extract fr i)).length := (qcL _).symm; rw [this, hx, List.length_drop, List.length_take, qcL]; omega)
   rw [qkU, hx] at hn
   refine Rl.t (by rfl) (Rl.t (by omega) (Rl.bind (by rw [Int.toNat_natCast, Int.toNat_natCast]; exact hn) ?_))
   by_cases c : qgQ (((dl s).take i).drop fr) = true
   ·have := ih (i + 1) (i + 1) (parts + 1) (by omega) (Nat.le_refl _) (by rw [List.drop_eq_nil_of_le (by rw [List.length_take]; omega)]; simp) (by omega) (by omega)
    rw [qf (x := parts + 1) (by omega), w1]
    refine Rl.f (by simp [c]) ?_
    rw [List.all_cons, c, Bool.true_and, List.length_cons]
    rw [show parts + (((pcs 46 (List.drop (i + 1) (dl s))).length + 1 : Nat) : Int) = parts + 1 + (((pcs 46 (List.drop (i + 1) (dl s))).length : Nat) : Int) by omega]
    exact this
   ·rw [if_neg (by simp at c; simp [c])]
    exact Rl.t (by simp at c; simp [c]) (Rl.pure _)
  ·have := ih (i + 1) fr parts (by omega) (by omega) (by
    rw [List.take_add_one, List.getElem?_eq_getElem hil, hbl, List.drop_append, show fr - (List.take i (dl s)).length = 0 by rw [List.length_take, qcL]; omega]
    intro hm
    rcases List.mem_append.1 hm with hm | hm
    ·exact hd hm
    ·simp at hm; exact cb hm.symm) h0 (by omega)
   rw [w1]
   refine Rl.f ?_ this
   rw [beq_iff_eq]
   intro hc
   exact cb (UInt8.toNat_inj.1 (by have h46 : (46 : UInt8).toNat = 46 := rfl; omega))
theorem qjB (s : ByteArray) (hs : s.size ≤ 1000000000000000) : Rn (fun k => qz k s) (qbV s) := by
 have h := qpe s hs s.size 0 0 0 (by omega) (by omega) (by simp) (by omega) (by omega)
 rw [List.drop_zero] at h
 refine Rn.up (f := fun k => qz k s) ?_
 show Rn (fun k => qfD k s) _
 unfold qfD qbV qr6
 refine Rn.bind h.diag ?_
 by_cases c : (pcs 46 (dl s)).all qgQ = true
 ·rw [if_pos c, c, Bool.and_true]
  refine Rn.const (congrArg some (decide_eq_decide.2 ?_))
  omega
 ·rw [if_neg c, Bool.eq_false_iff.2 c, Bool.and_false]
  exact Rn.pure _
def qgk (l : List (Int × Int)) : Prop := ∀ j, 0 ≤ j → j < l.length → okN (l.getD j (0, 0)).1 (l.getD j (0, 0)).2 = true
structure OkM (m1 : Int) (m2 m3 : List (Int × Int)) : Prop where
 gs : qgk m2
 vs : qgk m3
 kind : m1 = 115 ∧ m2.length = 2 ∧ m3.length = 1 ∨ m1 = 100 ∧ 1 ≤ m2.length ∧ m2.length ≤ 4 ∧ m3.length + 1 = m2.length ∧ ∀ j, 1 ≤ j → j < m3.length → qdU m3 (j - 1) < qdU m3 j
noncomputable def okM (m0 : ByteArray) (m1 : Int) (m2 m3 : List (Int × Int)) : Bool := qdB m0 && @decide (OkM m1 m2 m3) (Classical.propDecidable _)
theorem qtY {m0 : ByteArray} {m1 : Int} {m2 m3 : List (Int × Int)} : okM m0 m1 m2 m3 = true ↔ qdB m0 = true ∧ OkM m1 m2 m3 := by
 unfold okM
 rw [Bool.and_eq_true, @decide_eq_true_iff _ (Classical.propDecidable _)]
theorem qb9 {m0 : ByteArray} {m1 : Int} {m2 m3 : List (Int × Int)} {b : Bool} (h : b = true ↔ qdB m0 = true ∧ OkM m1 m2 m3) : b = okM m0 m1 m2 m3 := Bool.eq_iff_iff.2 (h.trans qtY.symm)
theorem qiZ {a b : Rat} : qju a b ≥ 0 ↔ ¬ a < b := by
 obtain ⟨c, h1, h2⟩ := qo3 a b
 rw [h1]
 rcases h2 with ⟨rfl, h⟩ | ⟨rfl, h⟩ | ⟨rfl, h⟩
 ·simp [h]
 ·subst h; simp
 ·simp only [ge_iff_le]
  exact iff_of_true (by omega) (Rat.not_lt.2 (Rat.le_of_lt h))
section
variable (m0 : ByteArray) (m1 : Int) (m2 m3 : List (Int × Int)) (h0 : m0.size ≤ 1000000000000000000) (h2 : m2.length ≤ 1000000000000000000) (h3 : m3.length ≤ 1000000000000000000)
include h0 h2 h3
theorem qn0 (x : Int) (l : List (Int × Int)) (hl : l.length ≤ 1000000000000000000) : ∃ o, Rl (fun k n => qaI k n m2 m3 x l l.length 0 m0 m1 m2 m3) o ∧
  (qgk l ∧ o = .inr (m2, m3, x, m0, m1, m2, m3) ∨ ¬ qgk l ∧ ∃ a : Bool × ByteArray × Int × List (Int × Int) × List (Int × Int) × Int × Int, a.1 = false ∧ o = .inl a) := by
 refine qds l.length 0 (fun k n i => qaI k n m2 m3 x l l.length i m0 m1 m2 m3) (m2, m3, x, m0, m1, m2, m3) (fun a => a.1 = false) (fun j => okN (l.getD j (0, 0)).1 (l.getD j (0, 0)).2 = true) ?_ ?_ ?_ l.length 0 (by omega) (by omega)
 ·refine Rl.up (f := fun k n => qaI k n m2 m3 x l l.length l.length m0 m1 m2 m3) (Rl.of 0 fun k n _ => ?_)
  show qcd k (qaI k n) _ _ _ _ _ _ _ _ _ _ = _
  unfold qcd
  exact if_neg (by simp)
 ·intro i hs hi hok o ho
  refine Rl.up (f := fun k n => qaI k n m2 m3 x l l.length i m0 m1 m2 m3) ?_
  show Rl (fun k n => qcd k (qaI k n) _ _ _ _ _ _ _ _ _ _) _
  unfold qcd
  refine Rl.t (decide_eq_true (by omega)) (Rl.t (by omega) (Rl.at (getD_some (0, 0) (by omega)) (Rl.bind (qc7 _ _) (Rl.f (by rw [Int.toNat_natCast, hok]; decide) ?_))))
  rw [qf (by omega)]
  exact ho
 ·intro i hs hi hok
  refine ⟨(false, m0, m1, m2, m3, l.getD i (0, 0)), rfl, Rl.up (f := fun k n => qaI k n m2 m3 x l l.length i m0 m1 m2 m3) ?_⟩
  show Rl (fun k n => qcd k (qaI k n) _ _ _ _ _ _ _ _ _ _) _
  unfold qcd
  refine Rl.t (decide_eq_true (by omega)) (Rl.t (by omega) (Rl.at (getD_some (0, 0) (by rw [Int.toNat_natCast]; omega)) (Rl.bind (qc7 _ _) (Rl.t (by rw [Int.toNat_natCast, Bool.eq_false_iff.2 hok]; decide) ?_))))
  rw [Int.toNat_natCast]
  exact Rl.pure _
theorem qtZ : ∃ o, Rl (fun k n => qap k n m2 m3 0 m0 m1 m2 m3) o ∧
  ((qgk m2 ∧ qgk m3) ∧ o = .inr (m0, m1, m2, m3) ∨ ¬ (qgk m2 ∧ qgk m3) ∧ ∃ a : Bool × ByteArray × Int × List (Int × Int) × List (Int × Int) × Int × Int, a.1 = false ∧ o = .inl a) := by
 obtain ⟨o1, a1, a2⟩ := qn0 m0 m1 m2 m3 h0 h2 h3 0 m2 h2
 obtain ⟨o2, b1, b2⟩ := qn0 m0 m1 m2 m3 h0 h2 h3 1 m3 h3
 have up0 : ∀ {o}, Rl (fun k n => qcO k (qap k n) m2 m3 0 m0 m1 m2 m3) o → Rl (fun k n => qap k n m2 m3 0 m0 m1 m2 m3) o := fun h => Rl.up (f := fun k n => qap k n m2 m3 0 m0 m1 m2 m3) h
 have up1 : ∀ {o}, Rl (fun k n => qcO k (qap k n) m2 m3 1 m0 m1 m2 m3) o → Rl (fun k n => qap k n m2 m3 1 m0 m1 m2 m3) o := fun h => Rl.up (f := fun k n => qap k n m2 m3 1 m0 m1 m2 m3) h
 have s2 : Rl (fun k n => qap k n m2 m3 2 m0 m1 m2 m3) (.inr (m0, m1, m2, m3)) := by
  refine Rl.up (f := fun k n => qap k n m2 m3 2 m0 m1 m2 m3) ?_
  show Rl (fun k n => qcO k (qap k n) m2 m3 2 m0 m1 m2 m3) _
  unfold qcO
  exact Rl.f (by decide) (Rl.pure _)
 unfold qcO at up0 up1
 rcases a2 with ⟨a2, rfl⟩ | ⟨a2, ⟨q1, q2, q3, q4, q5, q6, q7⟩, e, rfl⟩
 ·rcases b2 with ⟨b2, rfl⟩ | ⟨b2, ⟨q1, q2, q3, q4, q5, q6, q7⟩, e, rfl⟩
  ·exact ⟨_, up0 (Rl.t (by decide) (Rl.t rfl (Rl.bind a1.diag (up1 (Rl.t (by decide) (Rl.f (by decide) (Rl.t (by decide) (Rl.bind b1.diag s2)))))))), .inl ⟨⟨a2, b2⟩, rfl⟩⟩
  ·exact ⟨_, up0 (Rl.t (by decide) (Rl.t rfl (Rl.bind a1.diag (up1 (Rl.t (by decide) (Rl.f (by decide) (Rl.t (by decide) (Rl.bind b1.diag (Rl.pure (Sum.inl (q1, q2, q3, q4, q5, q6, q7))))))))))), .inr ⟨fun h => b2 h.2, _, e, rfl⟩⟩
 ·exact ⟨_, up0 (Rl.t (by decide) (Rl.t rfl (Rl.bind a1.diag (Rl.pure (Sum.inl (q1, q2, q3, q4, q5, q6, q7)))))), .inr ⟨fun h => a2 h.1, _, e, rfl⟩⟩
theorem qt0 (hv : qgk m3) (hlen : 1 ≤ m3.length) : ∃ o, Rl (fun k n => qab k n 1 m0 m1 m2 m3) o ∧
  ((∀ j, 1 ≤ j → j < m3.length → qdU m3 (j - 1) < qdU m3 j) ∧ o = .inr (m0, m1, m2, m3) ∨ (¬ ∀ j, 1 ≤ j → j < m3.length → qdU m3 (j - 1) < qdU m3 j) ∧ ∃ a : Bool × ByteArray × Int × List (Int × Int) × List (Int × Int), a.1 = false ∧ o = .inl a) := by
 have hc : ∀ i, 1 ≤ i → i < m3.length → Rn (fun k => qg7 k (m3.getD (i - 1) (0, 0)).1 (m3.getD (i - 1) (0, 0)).2 (m3.getD i (0, 0)).1 (m3.getD i (0, 0)).2) (qju (qdU m3 (i - 1)) (qdU m3 i), 0) := by
  intro i h1 h2
  have := qqv (m3.getD (i - 1) (0, 0)).1 (m3.getD (i - 1) (0, 0)).2 (m3.getD i (0, 0)).1 (m3.getD i (0, 0)).2
  rw [if_pos ⟨hv (i - 1) (by omega) (by omega), hv i (by omega) h2⟩] at this
  exact this
 refine qds m3.length 1 (fun k n i => qab k n i m0 m1 m2 m3) (m0, m1, m2, m3) (fun a => a.1 = false) (fun j => qdU m3 (j - 1) < qdU m3 j) ?_ ?_ ?_ (m3.length - 1) 1 (by omega) (by omega)
 ·refine Rl.up (f := fun k n => qab k n m3.length m0 m1 m2 m3) (Rl.of 0 fun k n _ => ?_)
  show qbq k (qab k n) _ _ _ _ _ = _
  unfold qbq
  exact if_neg (by simp)
 ·intro i hs hi hok o ho
  refine Rl.up (f := fun k n => qab k n i m0 m1 m2 m3) ?_
  show Rl (fun k n => qbq k (qab k n) _ _ _ _ _) _
  unfold qbq
  have e1 : (IntKind.i64.wrap ((i : Int) - 1)) = ((i - 1 : Nat) : Int) := by rw [qf (by omega)]; omega
  rw [e1]
  refine Rl.t (decide_eq_true (by omega)) (Rl.t (by omega) (Rl.at (getD_some (0, 0) (by rw [Int.toNat_natCast]; omega)) (Rl.t (by omega) (Rl.at (getD_some (0, 0) (by rw [Int.toNat_natCast]; omega)) ?_))))
  rw [Int.toNat_natCast, Int.toNat_natCast]
  refine Rl.bind (hc i hs hi) (Rl.f (by rw [decide_eq_true_eq, qiZ]; exact fun h => h hok) ?_)
  rw [qf (by omega)]
  exact ho
 ·intro i hs hi hok
  refine ⟨(false, m0, m1, m2, m3), rfl, Rl.up (f := fun k n => qab k n i m0 m1 m2 m3) ?_⟩
  show Rl (fun k n => qbq k (qab k n) _ _ _ _ _) _
  unfold qbq
  have e1 : (IntKind.i64.wrap ((i : Int) - 1)) = ((i - 1 : Nat) : Int) := by rw [qf (by omega)]; omega
  rw [e1]
  refine Rl.t (decide_eq_true (by omega)) (Rl.t (by omega) (Rl.at (getD_some (0, 0) (by rw [Int.toNat_natCast]; omega)) (Rl.t (by omega) (Rl.at (getD_some (0, 0) (by rw [Int.toNat_natCast]; omega)) ?_))))
  rw [Int.toNat_natCast, Int.toNat_natCast]
  exact Rl.bind (hc i hs hi) (Rl.t (by rw [decide_eq_true_eq, qiZ]; exact hok) (Rl.pure _))
theorem qla : Rn (fun k => qdS k m0 m1 m2 m3) (okM m0 m1 m2 m3) := by
 refine Rn.up (f := fun k => qdS k m0 m1 m2 m3) ?_
 show Rn (fun k => qg8 k m0 m1 m2 m3) _
 unfold qg8
 refine Rn.bind (qnT m0 h0) ?_
 by_cases hn : qdB m0 = true
 rotate_left
 ·refine Rn.t (by simp [hn]) (Rn.const (congrArg some (qb9 (by simp [hn]))))
 refine Rn.f (by simp [hn]) ?_
 obtain ⟨o, a1, a2⟩ := qtZ m0 m1 m2 m3 h0 h2 h3
 refine Rn.bind a1.diag ?_
 rcases a2 with ⟨⟨g1, g2⟩, rfl⟩ | ⟨a2, ⟨q1, q2, q3, q4, q5, q6, q7⟩, e, rfl⟩
 rotate_left
 ·exact Rn.const (congrArg some (qb9 (by simp only at e; subst e; simp only [Bool.false_eq_true, false_iff]; exact fun h => a2 ⟨h.2.gs, h.2.vs⟩)))
 show Rn (fun k => if (m1 == 115) = true then _ else if (m1 == 100) = true then _ else _) _
 by_cases k1 : m1 = 115
 ·refine Rn.t (by rw [beq_iff_eq]; exact k1) ?_
  by_cases c1 : m2.length = 2
  ·refine Rn.t (by rw [beq_iff_eq]; exact congrArg _ c1) (Rn.const (congrArg some (qb9 ?_)))
   rw [beq_iff_eq]
   constructor
   ·intro h; have h : (m3.length : Int) = 1 := h; exact ⟨hn, g1, g2, .inl ⟨k1, c1, by omega⟩⟩
   ·rintro ⟨_, h⟩; show (m3.length : Int) = 1; have := h.kind; omega
  ·refine Rn.f (by rw [beq_iff_eq]; show ¬ (m2.length : Int) = 2; omega) (Rn.const (congrArg some (qb9 ?_)))
   simp only [Bool.false_eq_true, false_iff]
   rintro ⟨_, h⟩; have := h.kind; omega
 refine Rn.f (by rw [beq_iff_eq]; exact k1) ?_
 by_cases k2 : m1 = 100
 rotate_left
 ·refine Rn.f (by rw [beq_iff_eq]; exact k2) (Rn.const (congrArg some (qb9 ?_)))
  simp only [Bool.false_eq_true, false_iff]
  rintro ⟨_, h⟩; have := h.kind; omega
 refine Rn.t (by rw [beq_iff_eq]; exact k2) ?_
 by_cases c1 : m2.length < 1
 ·refine Rn.f (by rw [decide_eq_false_iff_not]; show ¬ ¬ (m2.length : Int) < 1; omega) (Rn.const (congrArg some (qb9 ?_)))
  simp only [Bool.false_eq_true, false_iff]
  rintro ⟨_, h⟩; have := h.kind; omega
 refine Rn.t (by rw [decide_eq_false_iff_not]; show ¬ (m2.length : Int) < 1; omega) ?_
 by_cases c2 : m2.length > 4
 ·refine Rn.f (by rw [decide_eq_false_iff_not]; show ¬ ¬ (m2.length : Int) > 4; omega) (Rn.const (congrArg some (qb9 ?_)))
  simp only [Bool.false_eq_true, false_iff]
  rintro ⟨_, h⟩; have := h.kind; omega
 refine Rn.t (by rw [decide_eq_false_iff_not]; show ¬ (m2.length : Int) > 4; omega) ?_
 have e1 : (IntKind.i64.wrap ((m2.length : Int) - 1)) = (m2.length : Int) - 1 := qf (by omega)
 by_cases c3 : m3.length + 1 = m2.length
 rotate_left
 ·refine Rn.t (by rw [bne_iff_ne, ne_eq]; show ¬ (m3.length : Int) = IntKind.i64.wrap ((m2.length : Int) - 1); rw [e1]; omega) (Rn.const (congrArg some (qb9 ?_)))
  simp only [Bool.false_eq_true, false_iff]
  rintro ⟨_, h⟩; have := h.kind; omega
 refine Rn.f (by rw [bne_iff_ne, ne_eq]; show ¬ ¬ (m3.length : Int) = IntKind.i64.wrap ((m2.length : Int) - 1); rw [e1]; omega) ?_
 by_cases c4 : m3.length = 0
 ·have hz : Rl (fun k n => qab k n 1 m0 m1 m2 m3) (.inr (m0, m1, m2, m3)) := by
   refine Rl.up (f := fun k n => qab k n 1 m0 m1 m2 m3) (Rl.of 0 fun k n _ => ?_)
   show qbq k (qab k n) _ _ _ _ _ = _
   unfold qbq
   exact if_neg (by rw [decide_eq_true_eq]; omega)
  exact Rn.bind hz.diag (Rn.const (congrArg some (qb9 (iff_of_true rfl ⟨hn, g1, g2, .inr ⟨k2, by omega, by omega, c3, fun j j1 j2 => by omega⟩⟩))))
 obtain ⟨o, b1, b2⟩ := qt0 m0 m1 m2 m3 h0 h2 h3 g2 (by omega)
 refine Rn.bind b1.diag ?_
 rcases b2 with ⟨b2, rfl⟩ | ⟨b2, ⟨q1, q2, q3, q4, q5⟩, e, rfl⟩
 ·exact Rn.const (congrArg some (qb9 (iff_of_true rfl ⟨hn, g1, g2, .inr ⟨k2, by omega, by omega, c3, b2⟩⟩)))
 ·refine Rn.const (congrArg some (qb9 ?_))
  simp only at e
  subst e
  simp only [Bool.false_eq_true, false_iff]
  rintro ⟨_, h⟩
  rcases h.kind with k | k
  ·omega
  ·exact b2 k.2.2.2.2
end
def qal (k : Int) : Int := if k = 114 ∨ k = 99 ∨ k = 108 ∨ k = 118 ∨ k = 105 ∨ k = 102 ∨ k = 104 ∨ k = 100 then 2 else if k = 101 ∨ k = 103 ∨ k = 116 ∨ k = 115 then 4 else 0
def qpf : List (Int × Int) := [(114, 2), (99, 2), (108, 2), (118, 2), (105, 2), (101, 4), (103, 4), (102, 2), (104, 2), (116, 4), (100, 2), (115, 4)]
theorem qt1 : qam (.int .u8) (.int .i64) (qam (.int .u8) (.int .i64) (qam (.int .u8) (.int .i64) (qam (.int .u8) (.int .i64) (qam (.int .u8) (.int .i64) (qam (.int .u8) (.int .i64) (qam (.int .u8) (.int .i64) (qam (.int .u8) (.int .i64) (qam (.int .u8) (.int .i64) (qam (.int .u8) (.int .i64) (qam (.int .u8) (.int .i64) (qam (.int .u8) (.int .i64) [] (114 : Int) (2 : Int)) (99 : Int) (2 : Int)) (108 : Int) (2 : Int)) (118 : Int) (2 : Int)) (105 : Int) (2 : Int)) (101 : Int) (4 : Int)) (103 : Int) (4 : Int)) (102 : Int) (2 : Int)) (104 : Int) (2 : Int)) (116 : Int) (4 : Int)) (100 : Int) (2 : Int)) (115 : Int) (4 : Int) = qpf := by rfl
theorem qqE (p : Int × Int) (r : List (Int × Int)) (x : Int) : qdW (.int .u8) (.int .i64) (p :: r) x = if (x == p.1) = true then some (0, p.2) else (qdW (.int .u8) (.int .i64) r x).bind fun q => some (q.1 + 1, q.2) := rfl
theorem qqF (p : Int × Int) (r : List (Int × Int)) (x z : Int) : qgF (.int .u8) (.int .i64) (p :: r) x z = if x = p.1 then p.2 else qgF (.int .u8) (.int .i64) r x z := by
 unfold qgF
 rw [qqE]
 by_cases h : x = p.1
 ·rw [if_pos (beq_iff_eq.2 h), if_pos h]
 ·rw [if_neg (by simpa using h), if_neg h]
  cases qdW (.int .u8) (.int .i64) r x <;> rfl
def qlC : List (Int × Int) → Int → Int → Int
 | [], _, z => z
 | p :: r, x, z => if x = p.1 then p.2 else qlC r x z
theorem qkV : ∀ (l : List (Int × Int)) (x z : Int), qgF (.int .u8) (.int .i64) l x z = qlC l x z
 | [], _, _ => rfl
 | p :: r, x, z => (qqF p r x z).trans (by rw [qlC, qkV r x z])
theorem qt2 (k : Int) : qgF (.int .u8) (.int .i64) qpf k 0 = qal k := by
 refine (qkV qpf k 0).trans ?_
 unfold qpf qal
 simp only [qlC]
 repeat' split
 all_goals first | rfl | omega
def noW (d6 : Int) (d7 : List (Int × Int)) (d8 : List Int) : Bool := decide (d6 = 0 ∧ d7.length = 0 ∧ d8.length = 0)
def noM (d9 : ByteArray) (d10 : Int) (d11 d12 : List (Int × Int)) : Bool := decide (d9.data.toList = [] ∧ d10 = 0 ∧ d11.length = 0 ∧ d12.length = 0)
def qdV (n : Nat) (l : List Int) : Bool := l.all fun x => decide (0 ≤ x ∧ x < n)
def qcM (f1 : List Dv) (r : Int) : Bool := decide (0 ≤ r ∧ r < f1.length) && (match f1[r.toNat]? with | some x => decide (x.1 = 118) | none => false)
noncomputable def okR (n : Nat) (f1 : List Dv) (d0 : Int) (d1 : ByteArray) (d2 : List Int) (d3 d4 d5 d6 : Int) (d7 : List (Int × Int)) (d8 : List Int) (d9 : ByteArray) (d10 : Int) (d11 d12 : List (Int × Int)) : Bool :=
 decide (qal d0 ≠ 0) && decide ((d2.length : Int) = qal d0) && qbV d1 && qdV n d2 &&
 (if d0 = 118 ∨ d0 = 105 then okW d6 d7 d8 && decide (d4 = 0) && decide (d5 = 0) && noM d9 d10 d11 d12 && decide (d3 = 0)
  else if d0 = 100 ∨ d0 = 115 then noW d6 d7 d8 && decide (d4 = 0) && decide (d5 = 0) && okM d9 d10 d11 d12 && decide (d10 = d0) && decide (d3 = 0)
  else (if d0 = 102 ∨ d0 = 104 then qcM f1 d3 else decide (d3 = 0)) && okN d4 d5 && (decide (d4 ≠ 0) || !decide (d0 = 114 ∨ d0 = 99 ∨ d0 = 108)) && noW d6 d7 d8 && noM d9 d10 d11 d12)
theorem qqG (d6 : Int) (d7 : List (Int × Int)) (d8 : List Int) (h7 : d7.length ≤ 1000000000000000000) (h8 : d8.length ≤ 1000000000000000000) : Rn (fun k => qH k d6 d7 d8) (noW d6 d7 d8) := by
 refine Rn.up (f := fun k => qH k d6 d7 d8) ?_
 show Rn (fun k => qg5 k d6 d7 d8) _
 unfold qg5 noW
 by_cases c : d6 = 0
 ·refine Rn.t (by simp [c]) (Rn.const (congrArg some ?_))
  rw [qf (by omega), Bool.eq_iff_iff, beq_iff_eq, decide_eq_true_eq]
  omega
 ·exact Rn.f (by simp [c]) (Rn.const (congrArg some (decide_eq_false (by omega)).symm))
theorem qpg (d9 : ByteArray) (d10 : Int) (d11 d12 : List (Int × Int)) (h7 : d11.length ≤ 1000000000000000000) (h8 : d12.length ≤ 1000000000000000000) : Rn (fun k => qD k d9 d10 d11 d12) (noM d9 d10 d11 d12) := by
 refine Rn.up (f := fun k => qD k d9 d10 d11 d12) ?_
 show Rn (fun k => qgG k d9 d10 d11 d12) _
 unfold qgG noM
 by_cases c : d9.data.toList = []
 ·refine Rn.t (by rw [c]; rfl) ?_
  by_cases c2 : d10 = 0
  ·refine Rn.t (by simp [c2]) (Rn.const (congrArg some ?_))
   rw [qf (by omega), Bool.eq_iff_iff, beq_iff_eq, decide_eq_true_eq]
   exact ⟨fun h => ⟨c, c2, by omega, by omega⟩, fun h => by omega⟩
  ·exact Rn.f (by simp [c2]) (Rn.const (congrArg some (decide_eq_false (fun h => c2 h.2.1)).symm))
 ·refine Rn.f ?_ (Rn.const (congrArg some (decide_eq_false (fun h => c h.1)).symm))
  rw [beq_iff_eq]
  exact c
section
variable (f0 : List ByteArray) (f1 : List Dv) (f2 f3 f4 : Int) (d0 : Int) (d1 : ByteArray) (d2 : List Int) (d3 d4 d5 d6 : Int) (d7 : List (Int × Int)) (d8 : List Int) (d9 : ByteArray) (d10 : Int) (d11 d12 : List (Int × Int))
variable (h1 : d1.size ≤ 1000000000000) (h2 : d2.length ≤ 1000000000000000000) (h7 : d7.length ≤ 1000000000000000000) (h8 : d8.length ≤ 1000000000000000000) (h9 : d9.size ≤ 1000000000000000000) (h11 : d11.length ≤ 1000000000000000000) (h12 : d12.length ≤ 1000000000000000000)
include h2
theorem qph : Rn (fun k => qa9 k k d2 d2.length 0 f0 f1 f2 f3 f4 d0 d1 d2 d3 d4 d5 d6 d7 d8 d9 d10 d11 d12)
  (if qdV f0.length d2 = true then .inr (f0, f1, f2, f3, f4, d0, d1, d2, d3, d4, d5, d6, d7, d8, d9, d10, d11, d12) else .inl (false, f0, f1, f2, f3, f4, d0, d1, d2, d3, d4, d5, d6, d7, d8, d9, d10, d11, d12)) := by
 obtain ⟨o, b1, b2⟩ := qds d2.length 0 (fun k q i => qa9 k q d2 d2.length i f0 f1 f2 f3 f4 d0 d1 d2 d3 d4 d5 d6 d7 d8 d9 d10 d11 d12) (f0, f1, f2, f3, f4, d0, d1, d2, d3, d4, d5, d6, d7, d8, d9, d10, d11, d12)
  (fun a => a = (false, f0, f1, f2, f3, f4, d0, d1, d2, d3, d4, d5, d6, d7, d8, d9, d10, d11, d12)) (fun j => 0 ≤ d2.getD j 0 ∧ d2.getD j 0 < f0.length) (by
   refine Rl.up (f := fun k q => qa9 k q d2 d2.length d2.length f0 f1 f2 f3 f4 d0 d1 d2 d3 d4 d5 d6 d7 d8 d9 d10 d11 d12) ?_
   show Rl (fun k q => qcu k (qa9 k q) _ _ _ _ _ _ _ _ _ _ _ _ _ _ _ _ _ _ _ _ _) _
   unfold qcu
   exact Rl.f (by simp) (Rl.pure _)) (by
   intro i hs hi hok o ho
   refine Rl.up (f := fun k q => qa9 k q d2 d2.length i f0 f1 f2 f3 f4 d0 d1 d2 d3 d4 d5 d6 d7 d8 d9 d10 d11 d12) ?_
   show Rl (fun k q => qcu k (qa9 k q) _ _ _ _ _ _ _ _ _ _ _ _ _ _ _ _ _ _ _ _ _) _
   unfold qcu
   rw [qf (x := (i : Int) + 1) (by omega)]
   exact Rl.t (by first | omega | (simp only [decide_eq_true_eq, decide_eq_false_iff_not, Int.toNat_natCast, beq_iff_eq, bne_iff_ne, ne_eq, Int.not_lt, Int.not_le, ge_iff_le, gt_iff_lt, beq_eq_false_iff_ne, Nat.zero_add]; omega)) (Rl.t (by first | omega | (simp only [decide_eq_true_eq, decide_eq_false_iff_not, Int.toNat_natCast, beq_iff_eq, bne_iff_ne, ne_eq, Int.not_lt, Int.not_le, ge_iff_le, gt_iff_lt, beq_eq_false_iff_ne, Nat.zero_add]; omega)) (Rl.at (by rw [Int.toNat_natCast]; exact getD_some 0 hi) (Rl.t (decide_eq_false (by omega)) (Rl.f (by rw [decide_eq_true_eq]; omega) ho)))) ) (by
   intro i hs hi hok
   refine ⟨_, rfl, Rl.up (f := fun k q => qa9 k q d2 d2.length i f0 f1 f2 f3 f4 d0 d1 d2 d3 d4 d5 d6 d7 d8 d9 d10 d11 d12) ?_⟩
   show Rl (fun k q => qcu k (qa9 k q) _ _ _ _ _ _ _ _ _ _ _ _ _ _ _ _ _ _ _ _ _) _
   unfold qcu
   refine Rl.t (by first | omega | (simp only [decide_eq_true_eq, decide_eq_false_iff_not, Int.toNat_natCast, beq_iff_eq, bne_iff_ne, ne_eq, Int.not_lt, Int.not_le, ge_iff_le, gt_iff_lt, beq_eq_false_iff_ne, Nat.zero_add]; omega)) (Rl.t (by first | omega | (simp only [decide_eq_true_eq, decide_eq_false_iff_not, Int.toNat_natCast, beq_iff_eq, bne_iff_ne, ne_eq, Int.not_lt, Int.not_le, ge_iff_le, gt_iff_lt, beq_eq_false_iff_ne, Nat.zero_add]; omega)) (Rl.at (by rw [Int.toNat_natCast]; exact getD_some 0 hi) ?_))
   by_cases c : d2.getD i 0 < 0
   ·exact Rl.f (by simp; exact c) (Rl.pure _)
   ·exact Rl.t (decide_eq_false c) (Rl.t (by rw [decide_eq_true_eq]; omega) (Rl.pure _))) d2.length 0 (by omega) (by omega)
 have hall : qdV f0.length d2 = true ↔ ∀ j, 0 ≤ j → j < d2.length → 0 ≤ d2.getD j 0 ∧ d2.getD j 0 < f0.length := by
  unfold qdV
  rw [qfK]
  simp only [decide_eq_true_eq]
 rcases b2 with ⟨b2, rfl⟩ | ⟨b2, a, rfl, rfl⟩
 ·rw [if_pos (hall.2 b2)]; exact b1.diag
 ·rw [if_neg (fun h => b2 (hall.1 h))]; exact b1.diag
include h1 h7 h8 h9 h11 h12
theorem qqH : Rn (fun k => qfn k f0 f1 f2 f3 f4 d0 d1 d2 d3 d4 d5 d6 d7 d8 d9 d10 d11 d12) (okR f0.length f1 d0 d1 d2 d3 d4 d5 d6 d7 d8 d9 d10 d11 d12) := by
 refine Rn.up (f := fun k => qfn k f0 f1 f2 f3 f4 d0 d1 d2 d3 d4 d5 d6 d7 d8 d9 d10 d11 d12) ?_
 show Rn (fun k => qgq k f0 f1 f2 f3 f4 d0 d1 d2 d3 d4 d5 d6 d7 d8 d9 d10 d11 d12) _
 obtain ⟨K1, g1⟩ := qjA d1 h1
 obtain ⟨K2, g2⟩ := qph f0 f1 f2 f3 f4 d0 d1 d2 d3 d4 d5 d6 d7 d8 d9 d10 d11 d12 h2
 obtain ⟨K3, g3⟩ := qmL d6 d7 d8 h7 h8
 obtain ⟨K4, g4⟩ := qpg d9 d10 d11 d12 h11 h12
 obtain ⟨K5, g5⟩ := qqG d6 d7 d8 h7 h8
 obtain ⟨K6, g6⟩ := qla d9 d10 d11 d12 h9 h11 h12
 obtain ⟨K7, g7⟩ := qc7 d4 d5
 refine ⟨K1 + K2 + K3 + K4 + K5 + K6 + K7, fun k hk => ?_⟩
 have e1 : qeV k d1 = _ := g1 k (by omega)
 have e2 : qa9 k k d2 d2.length 0 f0 f1 f2 f3 f4 d0 d1 d2 d3 d4 d5 d6 d7 d8 d9 d10 d11 d12 = _ := g2 k (by omega)
 have e3 : qeh k d6 d7 d8 = _ := g3 k (by omega)
 have e4 : qD k d9 d10 d11 d12 = _ := g4 k (by omega)
 have e5 : qH k d6 d7 d8 = _ := g5 k (by omega)
 have e6 : qdS k d9 d10 d11 d12 = _ := g6 k (by omega)
 have e7 : qW k d4 d5 = _ := g7 k (by omega)
 clear hk g1 g2 g3 g4 g5 g6 g7 h1 h2 h7 h8 h9 h11 h12
 show qgq k f0 f1 f2 f3 f4 d0 d1 d2 d3 d4 d5 d6 d7 d8 d9 d10 d11 d12 = _
 unfold qgq
 rw [qt1, qt2]
 by_cases c0 : qal d0 = 0
 ·rw [if_neg (by simp [c0])]
  simp [okR, c0]
 rw [if_pos (by simpa using c0)]
 by_cases c1 : (d2.length : Int) = qal d0
 rotate_left
 ·rw [if_neg (by simpa using c1)]
  simp [okR, c1]
 rw [if_pos (by simpa using c1), e1]
 simp only [Option.bind_some]
 cases hl : qbV d1
 ·simp [okR, hl]
 simp only [Bool.not_true, Bool.false_eq_true, if_false, e2]
 cases hr : qdV f0.length d2
 ·simp [okR, hl, hr, qc]
 simp only [if_true, Option.bind_some, qc, e3, e4, e5, e6, e7]
 have hok : okR f0.length f1 d0 d1 d2 d3 d4 d5 d6 d7 d8 d9 d10 d11 d12 = (if d0 = 118 ∨ d0 = 105 then okW d6 d7 d8 && decide (d4 = 0) && decide (d5 = 0) && noM d9 d10 d11 d12 && decide (d3 = 0)
  else if d0 = 100 ∨ d0 = 115 then noW d6 d7 d8 && decide (d4 = 0) && decide (d5 = 0) && okM d9 d10 d11 d12 && decide (d10 = d0) && decide (d3 = 0)
  else (if d0 = 102 ∨ d0 = 104 then qcM f1 d3 else decide (d3 = 0)) && okN d4 d5 && (decide (d4 ≠ 0) || !decide (d0 = 114 ∨ d0 = 99 ∨ d0 = 108)) && noW d6 d7 d8 && noM d9 d10 d11 d12) := by
  simp [okR, c0, c1, hl, hr]
 rw [hok]
 clear hok e1 e2 e3 e4 e5 e6 e7 c1 hl hr c0
 generalize okW d6 d7 d8 = w
 generalize noM d9 d10 d11 d12 = nm
 generalize noW d6 d7 d8 = nw
 generalize okM d9 d10 d11 d12 = mo
 generalize okN d4 d5 = nn
 have href : ∀ r : Int, 0 ≤ r → r < f1.length → ∃ x, f1[r.toNat]? = some x := fun r h h' => ⟨_, List.getElem?_eq_getElem (by omega)⟩
 by_cases k1 : d0 = 118
 ·subst k1; simp; cases w <;> cases nm <;> simp <;> grind
 by_cases k2 : d0 = 105
 ·subst k2; simp; cases w <;> cases nm <;> simp <;> grind
 by_cases k3 : d0 = 100
 ·subst k3; simp; cases nw <;> cases mo <;> simp <;> grind
 by_cases k4 : d0 = 115
 ·subst k4; simp; cases nw <;> cases mo <;> simp <;> grind
 have hf : ∀ (X : Int × ByteArray × List Int × Int × (Int × Int) × (Int × List (Int × Int) × List Int) × ByteArray × Int × List (Int × Int) × List (Int × Int) → Option Bool), qcM f1 d3 = false → (∀ x, x.1 ≠ 118 → X x = some false) → (if decide (d3 < 0) = false then if decide (d3 ≥ ((f1.length : Nat) : Int)) = false then if 0 ≤ d3 then Option.bind f1[d3.toNat]? X else none else some false else some false) = some false := by
  intro X hv hX
  by_cases a1 : d3 < 0
  ·rw [if_neg (by simpa using a1)]
  ·rw [if_pos (by simpa using a1)]
   by_cases a2 : d3 ≥ ((f1.length : Nat) : Int)
   ·rw [if_neg (by simpa using a2)]
   ·obtain ⟨x, hx⟩ := href d3 (by omega) (by omega)
    rw [if_pos (by simpa using a2), if_pos (by omega), hx, Option.bind_some]
    refine hX x fun e => ?_
    simp [qcM, hx, e] at hv
    omega
 have ht : ∀ (X : Int × ByteArray × List Int × Int × (Int × Int) × (Int × List (Int × Int) × List Int) × ByteArray × Int × List (Int × Int) × List (Int × Int) → Option Bool) (r : Option Bool), qcM f1 d3 = true → (∀ x, x.1 = 118 → X x = r) → (if decide (d3 < 0) = false then if decide (d3 ≥ ((f1.length : Nat) : Int)) = false then if 0 ≤ d3 then Option.bind f1[d3.toNat]? X else none else some false else some false) = r := by
  intro X r hv hX
  simp only [qcM, Bool.and_eq_true, decide_eq_true_eq] at hv
  obtain ⟨x, hx⟩ := href d3 (by omega) (by omega)
  rw [hx] at hv
  rw [if_pos (by simp; omega), if_pos (by simp; omega), if_pos (by omega), hx, Option.bind_some]
  exact hX x (by simpa using hv.2)
 by_cases k5 : d0 = 102
 ·subst k5
  rw [if_neg (by decide), if_neg (by decide), if_neg (by decide), if_neg (by decide), if_pos (by decide)]
  cases hv : qcM f1 d3
  ·rw [hf _ hv (fun x hx => by rw [if_pos (by simpa using hx)])]
   simp [hv]
  ·refine ht _ _ hv (fun x hx => ?_)
   rw [if_neg (by simpa using hx)]
   simp
   cases nn <;> cases nw <;> cases nm <;> simp <;> grind
 by_cases k6 : d0 = 104
 ·subst k6
  rw [if_neg (by decide), if_neg (by decide), if_neg (by decide), if_neg (by decide), if_neg (by decide), if_pos (by decide)]
  cases hv : qcM f1 d3
  ·rw [hf _ hv (fun x hx => by rw [if_pos (by simpa using hx)])]
   simp [hv]
  ·refine ht _ _ hv (fun x hx => ?_)
   rw [if_neg (by simpa using hx)]
   simp
   cases nn <;> cases nw <;> cases nm <;> simp <;> grind
 rw [if_neg (by simpa using k1), if_neg (by simpa using k2), if_neg (by simpa using k3), if_neg (by simpa using k4), if_neg (by simpa using k5), if_neg (by simpa using k6)]
 rw [if_neg (by omega : ¬ (d0 = 118 ∨ d0 = 105)), if_neg (by omega : ¬ (d0 = 100 ∨ d0 = 115)), if_neg (by omega : ¬ (d0 = 102 ∨ d0 = 104))]
 by_cases z3 : d3 = 0
 rotate_left
 ·rw [if_pos (by simpa using z3)]; simp [z3]
 rw [if_neg (by simpa using z3)]
 by_cases k7 : d0 = 114
 ·subst k7; simp [z3]; cases nn <;> cases nw <;> cases nm <;> simp <;> grind
 by_cases k8 : d0 = 99
 ·subst k8; simp [z3]; cases nn <;> cases nw <;> cases nm <;> simp <;> grind
 by_cases k9 : d0 = 108
 ·subst k9; simp [z3]; cases nn <;> cases nw <;> cases nm <;> simp <;> grind
 ·simp [z3, k7, k8, k9]; cases nn <;> cases nw <;> cases nm <;> simp <;> grind
end
def twB (l : List ByteArray) : Bool := !decide ((l.map dl).Nodup)
def qdJ (s : List (ByteArray × Int)) : List (List UInt8) := s.map fun p => dl p.1
theorem qkh : ∀ (s : List (ByteArray × Int)) (x : ByteArray), dl x ∉ qdJ s → qdW .str (.int .i64) s x = none
 | [], _, _ => rfl
 | p :: r, x, h => by
  have h1 : ¬ dl x = dl p.1 := fun e => h (by simp [qdJ, e])
  have h2 := qkh r x (fun e => h (by simp [qdJ] at e ⊢; exact .inr e))
  unfold qdW
  have e : kEq .str x p.1 = false := by
   show ((dl x) == (dl p.1)) = false
   rw [beq_eq_false_iff_ne]
   exact h1
  rw [e]
  simp only [Bool.false_eq_true, if_false]
  rw [h2]; rfl
theorem qki : ∀ (s : List (ByteArray × Int)) (x : ByteArray), dl x ∈ qdJ s → ∃ q, qdW .str (.int .i64) s x = some q ∧ ∃ p, s[q.1]? = some p ∧ dl p.1 = dl x
 | [], _, h => by simp [qdJ] at h
 | p :: r, x, h => by
  unfold qdW
  by_cases h1 : dl x = dl p.1
  ·have e : kEq .str x p.1 = true := by
    show ((dl x) == (dl p.1)) = true
    rw [beq_iff_eq]
    exact h1
   rw [e]
   exact ⟨_, if_pos rfl, p, rfl, h1.symm⟩
  ·have e : kEq .str x p.1 = false := by
    show ((dl x) == (dl p.1)) = false
    rw [beq_eq_false_iff_ne]
    exact h1
   obtain ⟨q, h2, p', h3, h4⟩ := qki r x (by
    simp only [qdJ, List.map_cons, List.mem_cons] at h
    rcases h with h | h
    ·exact absurd h h1
    ·exact h)
   rw [e, h2]
   exact ⟨(q.1 + 1, q.2), rfl, p', h3, h4⟩
theorem qr7 {s : List (ByteArray × Int)} {x : ByteArray} (v : Int) (h : dl x ∉ qdJ s) : qam .str (.int .i64) s x v = s ++ [(x, v)] := by
 unfold qam
 rw [qkh s x h]
theorem qr8 {s : List (ByteArray × Int)} {x : ByteArray} (v : Int) (h : dl x ∈ qdJ s) : ∃ s' : List (ByteArray × Int), qam .str (.int .i64) s x v = s' ∧ s'.length = s.length ∧ qdJ s' = qdJ s := by
 obtain ⟨q, h1, p, h2, h3⟩ := qki s x h
 refine ⟨s.set q.1 (x, v), ?_, List.length_set, ?_⟩
 ·unfold qam
  rw [h1]
 ·have hq := (List.getElem?_eq_some_iff.1 h2)
  obtain ⟨hlt, hp⟩ := hq
  unfold qdJ
  rw [List.map_set]
  apply List.ext_getElem?
  intro j
  by_cases c : q.1 = j
  ·subst c
   rw [List.getElem?_set_self (by rw [List.length_map]; exact hlt), List.getElem?_map, h2]
   show some (dl x) = some (dl p.1)
   rw [h3]
  ·rw [List.getElem?_set_ne c]
theorem qnh (l : List ByteArray) (hl : l.length ≤ 1000000000000000000) : ∀ (d i : Nat) (seen : List (ByteArray × Int)), i + d = l.length → (∀ y, y ∈ qdJ seen ↔ y ∈ (l.take i).map dl) → seen.length ≤ i → (seen.length = i ↔ ((l.take i).map dl).Nodup) →
  ∃ s' : List (ByteArray × Int), Rl (fun k q => qcT k q l l l.length (i : Int) seen) (l, s') ∧ s'.length ≤ l.length ∧ (s'.length = l.length ↔ (l.map dl).Nodup) := by
 intro d
 induction d with
 | zero =>
  intro i seen e hk h1 h2
  have ei : i = l.length := by omega
  subst ei
  rw [List.take_length] at h2
  refine ⟨seen, Rl.up (f := fun k q => qcT k q l l l.length (l.length : Int) seen) ?_, h1, h2⟩
  show Rl (fun k q => qdO k (qcT k q) _ _ _ _ _) _
  unfold qdO
  exact Rl.f (by first | omega | (simp only [decide_eq_true_eq, decide_eq_false_iff_not, Int.toNat_natCast, beq_iff_eq, bne_iff_ne, ne_eq, Int.not_lt, Int.not_le, ge_iff_le, gt_iff_lt, beq_eq_false_iff_ne, Nat.zero_add]; omega)) (Rl.pure _)
 | succ d ih =>
  intro i seen e hk h1 h2
  have hi : i < l.length := by omega
  have eg : l[i]? = some l[i] := List.getElem?_eq_getElem hi
  have et : (l.take (i + 1)).map dl = (l.take i).map dl ++ [dl l[i]] := by rw [List.take_add_one, eg, List.map_append]; rfl
  obtain ⟨s2, f1, f2, f3⟩ : ∃ s2 : List (ByteArray × Int), qam .str (.int .i64) seen l[i] (IntKind.i64.wrap (qgF .str (.int .i64) seen l[i] 0 + 1)) = s2 ∧ (∀ y, y ∈ qdJ s2 ↔ y ∈ (l.take (i + 1)).map dl) ∧ s2.length ≤ i + 1 ∧ (s2.length = i + 1 ↔ ((l.take (i + 1)).map dl).Nodup) := by
   rw [et]
   have nd : ((l.take i).map dl ++ [dl l[i]]).Nodup ↔ ((l.take i).map dl).Nodup ∧ dl l[i] ∉ (l.take i).map dl := by
    rw [List.nodup_append]
    constructor
    ·intro ⟨a, b, c⟩
     exact ⟨a, fun hm => c _ hm _ (by simp) rfl⟩
    ·intro ⟨a, b⟩
     exact ⟨a, by simp, fun x hx y hy => by simp at hy; subst hy; exact fun e => b (e ▸ hx)⟩
   by_cases c : dl l[i] ∈ qdJ seen
   ·obtain ⟨s', m1, m2, m3⟩ := qr8 (IntKind.i64.wrap (qgF .str (.int .i64) seen l[i] 0 + 1)) c
    refine ⟨s', m1, fun y => ?_, by omega, ?_⟩
    ·rw [m3, hk, List.mem_append, List.mem_singleton]
     exact ⟨.inl, fun h => h.elim id fun e => by rw [e]; exact (hk _).1 c⟩
    ·rw [nd]
     exact ⟨fun h => by omega, fun h => absurd ((hk _).1 c) h.2⟩
   ·refine ⟨_, qr7 _ c, fun y => ?_, by rw [List.length_append]; simp; omega, ?_⟩
    ·unfold qdJ at hk ⊢
     rw [List.map_append, List.mem_append, hk, List.mem_append]
     rfl
    ·rw [nd, List.length_append]
     simp only [List.length_singleton, Nat.add_right_cancel_iff]
     exact ⟨fun h => ⟨h2.1 h, fun hm => c ((hk _).2 hm)⟩, fun h => h2.2 h.1⟩
  obtain ⟨s', b1, b2, b3⟩ := ih (i + 1) s2 (by omega) f2 f3.1 f3.2
  refine ⟨s', Rl.up (f := fun k q => qcT k q l l l.length (i : Int) seen) ?_, b2, b3⟩
  show Rl (fun k q => qdO k (qcT k q) _ _ _ _ _) _
  unfold qdO
  rw [qf (x := (i : Int) + 1) (by omega)]
  refine Rl.t (by first | omega | (simp only [decide_eq_true_eq, decide_eq_false_iff_not, Int.toNat_natCast, beq_iff_eq, bne_iff_ne, ne_eq, Int.not_lt, Int.not_le, ge_iff_le, gt_iff_lt, beq_eq_false_iff_ne, Nat.zero_add]; omega)) (Rl.t (by first | omega | (simp only [decide_eq_true_eq, decide_eq_false_iff_not, Int.toNat_natCast, beq_iff_eq, bne_iff_ne, ne_eq, Int.not_lt, Int.not_le, ge_iff_le, gt_iff_lt, beq_eq_false_iff_ne, Nat.zero_add]; omega)) (Rl.at (by rw [Int.toNat_natCast]; exact eg) ?_))
  rw [f1]
  exact b1
theorem qkW (l : List ByteArray) (hl : l.length ≤ 1000000000000000000) : Rn (fun k => qbT k l) (twB l) := by
 obtain ⟨s', b1, b2, b3⟩ := qnh l hl l.length 0 [] (by omega) (by simp [qdJ]) (by simp) (by simp)
 refine Rn.up (f := fun k => qbT k l) ?_
 show Rn (fun k => qhr k l) _
 unfold qhr twB
 refine Rn.bind b1.diag (Rn.const (congrArg some ?_))
 rw [Bool.eq_iff_iff, bne_iff_ne, Bool.not_eq_true', decide_eq_false_iff_not, ← b3]
 show (((s'.length : Nat) : Int) ≠ ((l.length : Nat) : Int)) ↔ _
 omega
theorem qt3 (s : ByteArray) (l : List ByteArray) (hl : l.length ≤ 1000000000000000000) : Rn (fun k => qdl k s l) (decide (dl s ∈ l.map dl)) := by
 obtain ⟨o, b1, b2⟩ := qds l.length 0 (fun k q i => qaw k q s l i) () (fun a => a = true) (fun j => ∀ x, l[j]? = some x → dl x ≠ dl s) (by
   refine Rl.up (f := fun k q => qaw k q s l l.length) ?_
   show Rl (fun k q => qbn k (qaw k q) _ _ _) _
   unfold qbn
   exact Rl.f (by simp) (Rl.pure _)) (by
   intro i hs hi hok o ho
   refine Rl.up (f := fun k q => qaw k q s l i) ?_
   show Rl (fun k q => qbn k (qaw k q) _ _ _) _
   unfold qbn
   rw [qf (x := (i : Int) + 1) (by omega)]
   have eg := List.getElem?_eq_getElem hi
   exact Rl.t (by first | omega | (simp only [decide_eq_true_eq, decide_eq_false_iff_not, Int.toNat_natCast, beq_iff_eq, bne_iff_ne, ne_eq, Int.not_lt, Int.not_le, ge_iff_le, gt_iff_lt, beq_eq_false_iff_ne, Nat.zero_add]; omega)) (Rl.t (by first | omega | (simp only [decide_eq_true_eq, decide_eq_false_iff_not, Int.toNat_natCast, beq_iff_eq, bne_iff_ne, ne_eq, Int.not_lt, Int.not_le, ge_iff_le, gt_iff_lt, beq_eq_false_iff_ne, Nat.zero_add]; omega)) (Rl.at (by rw [Int.toNat_natCast]; exact eg) (Rl.f (by rw [beq_iff_eq]; exact hok _ eg) ho)))) (by
   intro i hs hi hok
   have eg := List.getElem?_eq_getElem hi
   refine ⟨true, rfl, Rl.up (f := fun k q => qaw k q s l i) ?_⟩
   show Rl (fun k q => qbn k (qaw k q) _ _ _) _
   unfold qbn
   have : dl (l[i]) = dl s := Classical.byContradiction fun h => hok fun x hx => by rw [eg] at hx; cases hx; exact h
   exact Rl.t (by first | omega | (simp only [decide_eq_true_eq, decide_eq_false_iff_not, Int.toNat_natCast, beq_iff_eq, bne_iff_ne, ne_eq, Int.not_lt, Int.not_le, ge_iff_le, gt_iff_lt, beq_eq_false_iff_ne, Nat.zero_add]; omega)) (Rl.t (by first | omega | (simp only [decide_eq_true_eq, decide_eq_false_iff_not, Int.toNat_natCast, beq_iff_eq, bne_iff_ne, ne_eq, Int.not_lt, Int.not_le, ge_iff_le, gt_iff_lt, beq_eq_false_iff_ne, Nat.zero_add]; omega)) (Rl.at (by rw [Int.toNat_natCast]; exact eg) (Rl.t (by rw [beq_iff_eq]; exact this) (Rl.pure _))))) l.length 0 (by omega) (by omega)
 have hall : dl s ∈ l.map dl ↔ ¬ ∀ j, 0 ≤ j → j < l.length → ∀ x, l[j]? = some x → dl x ≠ dl s := by
  rw [List.mem_map]
  constructor
  ·rintro ⟨x, hx, e⟩ h
   obtain ⟨j, hj, ej⟩ := List.mem_iff_getElem.1 hx
   exact h j (Nat.zero_le _) hj x (by rw [List.getElem?_eq_getElem hj, ej]) e
  ·intro h
   exact Classical.byContradiction fun h2 => h fun j _ hj x hx e => h2 ⟨x, List.mem_of_getElem? hx, e⟩
 refine Rn.up (f := fun k => qdl k s l) ?_
 show Rn (fun k => qfH k s l) _
 unfold qfH
 refine Rn.bind b1.diag ?_
 rcases b2 with ⟨b2, rfl⟩ | ⟨b2, a, rfl, rfl⟩
 ·rw [decide_eq_false (fun h => hall.1 h b2)]; exact Rn.pure _
 ·rw [decide_eq_true (hall.2 b2)]; exact Rn.pure _
theorem qkX (l : List ByteArray) (hl : l.length ≤ 1000000000000000000) : Rn (fun k => qbK k l) (twB l) := by
 have hin : ∀ i, i < l.length → ∀ x, l[i]? = some x → Rn (fun k => qdl k x (l.take i)) (decide (dl x ∈ (l.take i).map dl)) := fun i hi x _ => qt3 x _ (by rw [List.length_take]; omega)
 obtain ⟨o, b1, b2⟩ := qds l.length 0 (fun k q i => qah k q l i) () (fun a => a = true) (fun j => ∀ x, l[j]? = some x → dl x ∉ (l.take j).map dl) (by
   refine Rl.up (f := fun k q => qah k q l l.length) ?_
   show Rl (fun k q => qaY k (qah k q) _ _) _
   unfold qaY
   exact Rl.f (by simp) (Rl.pure _)) (by
   intro i hs hi hok o ho
   refine Rl.up (f := fun k q => qah k q l i) ?_
   show Rl (fun k q => qaY k (qah k q) _ _) _
   unfold qaY
   rw [qf (x := (i : Int) + 1) (by omega)]
   have eg := List.getElem?_eq_getElem hi
   have hx := hin i hi _ eg
   rw [decide_eq_false (hok _ eg)] at hx
   exact Rl.t (by first | omega | (simp only [decide_eq_true_eq, decide_eq_false_iff_not, Int.toNat_natCast, beq_iff_eq, bne_iff_ne, ne_eq, Int.not_lt, Int.not_le, ge_iff_le, gt_iff_lt, beq_eq_false_iff_ne, Nat.zero_add]; omega)) (Rl.t (by first | omega | (simp only [decide_eq_true_eq, decide_eq_false_iff_not, Int.toNat_natCast, beq_iff_eq, bne_iff_ne, ne_eq, Int.not_lt, Int.not_le, ge_iff_le, gt_iff_lt, beq_eq_false_iff_ne, Nat.zero_add]; omega)) (Rl.at (by rw [Int.toNat_natCast]; exact eg) (Rl.t (by first | omega | (simp only [decide_eq_true_eq, decide_eq_false_iff_not, Int.toNat_natCast, beq_iff_eq, bne_iff_ne, ne_eq, Int.not_lt, Int.not_le, ge_iff_le, gt_iff_lt, beq_eq_false_iff_ne, Nat.zero_add]; omega)) (Rl.bind (by rw [Int.toNat_natCast]; exact hx) (Rl.f (by decide) ho)))))) (by
   intro i hs hi hok
   have eg := List.getElem?_eq_getElem hi
   refine ⟨true, rfl, Rl.up (f := fun k q => qah k q l i) ?_⟩
   show Rl (fun k q => qaY k (qah k q) _ _) _
   unfold qaY
   have hm : dl (l[i]) ∈ (l.take i).map dl := Classical.byContradiction fun h => hok fun x hx => by rw [eg] at hx; cases hx; exact h
   have hx := hin i hi _ eg
   rw [decide_eq_true hm] at hx
   exact Rl.t (by first | omega | (simp only [decide_eq_true_eq, decide_eq_false_iff_not, Int.toNat_natCast, beq_iff_eq, bne_iff_ne, ne_eq, Int.not_lt, Int.not_le, ge_iff_le, gt_iff_lt, beq_eq_false_iff_ne, Nat.zero_add]; omega)) (Rl.t (by first | omega | (simp only [decide_eq_true_eq, decide_eq_false_iff_not, Int.toNat_natCast, beq_iff_eq, bne_iff_ne, ne_eq, Int.not_lt, Int.not_le, ge_iff_le, gt_iff_lt, beq_eq_false_iff_ne, Nat.zero_add]; omega)) (Rl.at (by rw [Int.toNat_natCast]; exact eg) (Rl.t (by first | omega | (simp only [decide_eq_true_eq, decide_eq_false_iff_not, Int.toNat_natCast, beq_iff_eq, bne_iff_ne, ne_eq, Int.not_lt, Int.not_le, ge_iff_le, gt_iff_lt, beq_eq_false_iff_ne, Nat.zero_add]; omega)) (Rl.bind (by rw [Int.toNat_natCast]; exact hx) (Rl.t (by decide) (Rl.pure _))))))) l.length 0 (by omega) (by omega)
 have hnd : ∀ i, i ≤ l.length → (((l.take i).map dl).Nodup ↔ ∀ j, 0 ≤ j → j < i → ∀ x, l[j]? = some x → dl x ∉ (l.take j).map dl) := by
  intro i
  induction i with
  | zero => intro _; simp
  | succ i ih =>
   intro hi
   have eg := List.getElem?_eq_getElem (show i < l.length by omega)
   rw [List.take_add_one, eg]
   simp only [Option.toList_some, List.map_append, List.map_singleton]
   rw [List.nodup_append, ih (by omega)]
   constructor
   ·rintro ⟨a, _, c⟩ j _ hj x hx
    rcases Nat.lt_or_ge j i with k | k
    ·exact a j (Nat.zero_le _) k x hx
    ·obtain rfl : j = i := by omega
     rw [eg] at hx; cases hx
     exact fun hm => c _ hm _ (by simp) rfl
   ·intro h
    exact ⟨fun j h0 hj x hx => h j h0 (by omega) x hx, by simp, fun x hx y hy => by
     simp at hy; subst hy
     exact fun e => h i (Nat.zero_le _) (by omega) _ eg (e ▸ hx)⟩
 have hl2 := hnd l.length (Nat.le_refl _)
 rw [List.take_length] at hl2
 refine Rn.up (f := fun k => qbK k l) ?_
 show Rn (fun k => qfb k l) _
 unfold qfb twB
 refine Rn.bind b1.diag ?_
 rcases b2 with ⟨b2, rfl⟩ | ⟨b2, a, rfl, rfl⟩
 ·rw [decide_eq_true (hl2.2 b2)]; exact Rn.pure _
 ·rw [decide_eq_false (fun h => b2 (hl2.1 h))]; exact Rn.pure _
def bBr : ByteArray := ByteArray.mk (List.toArray (118 :: (101 :: (104 :: (99 :: (108 :: (116 :: [])))))))
def brB (d : Dv) : Bool := decide (0 ≤ qbX bBr d.1)
def brL : Int → List Dv → List Int
 | _, [] => []
 | n, d :: l => if brB d then n :: brL (n + 1) l else -1 :: brL n l
def qfL (l : List Dv) : Nat := l.countP brB
theorem qhG : ∀ (l : List Dv) (n : Int), (brL n l).length = l.length
 | [], _ => rfl
 | d :: l, n => by unfold brL; split <;> simp [qhG l]
theorem qpi (f1 : List Dv) (hl : f1.length ≤ 1000000000) : ∀ (d i : Nat) (n : Int) (ls : List Int), i + d = f1.length → ls.length = i → 0 ≤ n + 1 → n ≤ 1000000000 + i →
  Rl (fun k q => qcU k q n ls.length f1 f1.length (i : Int) ls) (n + qfL (f1.drop i), f1.length, ls ++ brL n (f1.drop i)) := by
 intro d
 induction d with
 | zero =>
  intro i n ls e h1 h2 h3
  obtain rfl : i = f1.length := by omega
  rw [List.drop_length]
  refine Rl.up (f := fun k q => qcU k q n ls.length f1 f1.length (f1.length : Int) ls) ?_
  show Rl (fun k q => qdT k (qcU k q) _ _ _ _ _ _) _
  unfold qdT
  simp only [brL, List.append_nil]
  rw [h1]
  exact Rl.f (by first | omega | (simp only [decide_eq_true_eq, decide_eq_false_iff_not, Int.toNat_natCast, beq_iff_eq, bne_iff_ne, ne_eq, Int.not_lt, Int.not_le, ge_iff_le, gt_iff_lt, beq_eq_false_iff_ne, Nat.zero_add]; omega)) (by simpa [qfL] using Rl.pure _)
 | succ d ih =>
  intro i n ls e h1 h2 h3
  have hi : i < f1.length := by omega
  have eg : f1[i]? = some f1[i] := List.getElem?_eq_getElem hi
  have edr : f1.drop i = f1[i] :: f1.drop (i + 1) := List.drop_eq_getElem_cons hi
  generalize f1[i] = x at eg edr
  rw [edr]
  refine Rl.up (f := fun k q => qcU k q n ls.length f1 f1.length (i : Int) ls) ?_
  show Rl (fun k q => qdT k (qcU k q) _ _ _ _ _ _) _
  unfold qdT
  rw [qf (x := (i : Int) + 1) (by omega)]
  refine Rl.t (by first | omega | (simp only [decide_eq_true_eq, decide_eq_false_iff_not, Int.toNat_natCast, beq_iff_eq, bne_iff_ne, ne_eq, Int.not_lt, Int.not_le, ge_iff_le, gt_iff_lt, beq_eq_false_iff_ne, Nat.zero_add]; omega)) (Rl.t (by first | omega | (simp only [decide_eq_true_eq, decide_eq_false_iff_not, Int.toNat_natCast, beq_iff_eq, bne_iff_ne, ne_eq, Int.not_lt, Int.not_le, ge_iff_le, gt_iff_lt, beq_eq_false_iff_ne, Nat.zero_add]; omega)) (Rl.at (by rw [Int.toNat_natCast]; exact eg) (Rl.bind (qck _ _) ?_)))
  by_cases c : 0 ≤ qbX bBr x.1
  ·have ih' := ih (i + 1) (n + 1) (ls ++ [n]) (by omega) (by rw [List.length_append]; simp; omega) (by omega) (by omega)
   rw [qf (x := n + 1) (by omega)]
   have hb : brB x = true := decide_eq_true c
   have e1 : List.take 1 [n] = [n] := rfl
   refine Rl.t (decide_eq_true c) (Rl.t (Nat.le_refl _) (Rl.t (by rw [e1]; simp only [List.length_singleton]; omega) ?_))
   rw [e1, List.take_length]
   rw [List.length_append] at ih'
   rw [brL, if_pos hb, qfL, List.countP_cons_of_pos hb]
   rw [show n + ((List.countP brB (f1.drop (i + 1)) + 1 : Nat) : Int) = n + 1 + ((List.countP brB (f1.drop (i + 1)) : Nat) : Int) by omega]
   rw [List.append_assoc] at ih'
   exact ih'
  ·have ih' := ih (i + 1) n (ls ++ [-1]) (by omega) (by rw [List.length_append]; simp; omega) (by omega) (by omega)
   have hb : ¬ brB x = true := fun h => c (of_decide_eq_true h)
   have e1 : List.take 1 [(-1 : Int)] = [-1] := rfl
   refine Rl.f (fun h => c (of_decide_eq_true h)) (Rl.t (Nat.le_refl _) (Rl.t (by omega) ?_))
   rw [e1, List.take_length]
   rw [List.length_append] at ih'
   rw [brL, if_neg hb, qfL, List.countP_cons_of_neg hb]
   rw [List.append_assoc] at ih'
   exact ih'
theorem qt4 (f0 : List ByteArray) (f1 : List Dv) (f2 f3 f4 : Int) (h0 : f0.length ≤ 1000000000) (hl : f1.length ≤ 1000000000) : Rn (fun k => qc6 k f0 f1 f2 f3 f4) ((f0.length : Int) - 1 + qfL f1, brL ((f0.length : Int) - 1) f1) := by
 have h := qpi f1 hl f1.length 0 ((f0.length : Int) - 1) [] (by omega) rfl (by omega) (by omega)
 rw [List.drop_zero] at h
 refine Rn.up (f := fun k => qc6 k f0 f1 f2 f3 f4) ?_
 show Rn (fun k => qhu k f0 f1 f2 f3 f4) _
 unfold qhu
 rw [qf (x := (f0.length : Int) - 1) (by omega)]
 refine Rn.bind h.diag (Rn.t (by simp [qhG]) (Rn.const (congrArg some ?_)))
 simp only [List.nil_append]
 rw [List.take_of_length_le (by rw [qhG]; exact Nat.le_refl _)]
structure GoodD (d : Dv) : Prop where
 kd : 0 ≤ d.1 ∧ d.1 < 256
 nm : d.2.1.size ≤ 1000000000000
 nd : d.2.2.1.length ≤ 1000000000000
 wv : d.2.2.2.2.2.1.2.1.length ≤ 1000000000000
 ws : d.2.2.2.2.2.1.2.2.length ≤ 1000000000000
 mn : d.2.2.2.2.2.2.1.size ≤ 1000000000000
 mg : d.2.2.2.2.2.2.2.2.1.length ≤ 1000000000000
 mv : d.2.2.2.2.2.2.2.2.2.length ≤ 1000000000000
structure Gd (f0 : List ByteArray) (f1 : List Dv) : Prop where
 l0 : f0.length ≤ 1000000000
 l1 : f1.length ≤ 1000000000
 nm : ∀ s ∈ f0, s.size ≤ 1000000000000
 dv : ∀ d ∈ f1, GoodD d
noncomputable def qeX (n : Nat) (f1 : List Dv) (d : Dv) : Bool := okR n f1 d.1 d.2.1 d.2.2.1 d.2.2.2.1 d.2.2.2.2.1.1 d.2.2.2.2.1.2 d.2.2.2.2.2.1.1 d.2.2.2.2.2.1.2.1 d.2.2.2.2.2.1.2.2 d.2.2.2.2.2.2.1 d.2.2.2.2.2.2.2.1 d.2.2.2.2.2.2.2.2.1 d.2.2.2.2.2.2.2.2.2
def b0 : List UInt8 := [48]
noncomputable def qeu (f0 : List ByteArray) (f1 : List Dv) (f2 f3 f4 : Int) : Bool :=
 okN f2 f3 && decide (0 < f2) && decide (f4 = 1 ∨ f4 = 2) && decide (1 ≤ f0.length ∧ f0.length ≤ 32) && decide (f1.length ≤ 64) && decide ((f0.map dl).headD [] = b0) && !twB f0 && f0.all qbV && f1.all (qeX f0.length f1) && !twB (f1.map fun d => d.2.1)
noncomputable def chk (f0 : List ByteArray) (f1 : List Dv) (f2 f3 f4 : Int) : Int :=
 if qeu f0 f1 f2 f3 f4 = true then (if (48 : Int) < (f0.length : Int) - 1 + qfL f1 then 5 else 0) else 90
section
variable (f0 : List ByteArray) (f1 : List Dv) (f2 f3 f4 : Int) (g : Gd f0 f1)
include g
theorem qni : ∃ a, a.1 = (90 : Int) ∧ Rn (fun k => qaG k k f0 f0.length 0 f0 f1 f2 f3 f4) (if f0.all qbV = true then .inr (f0, f1, f2, f3, f4) else .inl a) := by
 obtain ⟨o, b1, b2⟩ := qds f0.length 0 (fun k q i => qaG k q f0 f0.length i f0 f1 f2 f3 f4) (f0, f1, f2, f3, f4) (fun a => a = (90, f0, f1, f2, f3, f4)) (fun j => ∀ x, f0[j]? = some x → qbV x = true) (by
   refine Rl.up (f := fun k q => qaG k q f0 f0.length f0.length f0 f1 f2 f3 f4) ?_
   show Rl (fun k q => qcv k (qaG k q) _ _ _ _ _ _ _ _) _
   unfold qcv
   exact Rl.f (by simp) (Rl.pure _)) (by
   intro i hs hi hok o ho
   refine Rl.up (f := fun k q => qaG k q f0 f0.length i f0 f1 f2 f3 f4) ?_
   show Rl (fun k q => qcv k (qaG k q) _ _ _ _ _ _ _ _) _
   unfold qcv
   have eg := List.getElem?_eq_getElem hi
   have hx := qjA _ (g.nm _ (List.getElem_mem hi))
   rw [hok _ eg] at hx
   have := g.l0
   rw [qf (x := (i : Int) + 1) (by omega)]
   exact Rl.t (by first | omega | (simp only [decide_eq_true_eq, decide_eq_false_iff_not, Int.toNat_natCast, beq_iff_eq, bne_iff_ne, ne_eq, Int.not_lt, Int.not_le, ge_iff_le, gt_iff_lt, beq_eq_false_iff_ne, Nat.zero_add]; omega)) (Rl.t (by first | omega | (simp only [decide_eq_true_eq, decide_eq_false_iff_not, Int.toNat_natCast, beq_iff_eq, bne_iff_ne, ne_eq, Int.not_lt, Int.not_le, ge_iff_le, gt_iff_lt, beq_eq_false_iff_ne, Nat.zero_add]; omega)) (Rl.at (by rw [Int.toNat_natCast]; exact eg) (Rl.bind hx (Rl.f (by decide) ho))))) (by
   intro i hs hi hok
   refine ⟨_, rfl, Rl.up (f := fun k q => qaG k q f0 f0.length i f0 f1 f2 f3 f4) ?_⟩
   show Rl (fun k q => qcv k (qaG k q) _ _ _ _ _ _ _ _) _
   unfold qcv
   have eg := List.getElem?_eq_getElem hi
   have hx := qjA _ (g.nm _ (List.getElem_mem hi))
   have hf : qbV (f0[i]'hi) = false := by
    rw [← Bool.not_eq_true]
    exact fun h => hok fun x hx => by rw [eg] at hx; cases hx; exact h
   rw [hf] at hx
   exact Rl.t (by first | omega | (simp only [decide_eq_true_eq, decide_eq_false_iff_not, Int.toNat_natCast, beq_iff_eq, bne_iff_ne, ne_eq, Int.not_lt, Int.not_le, ge_iff_le, gt_iff_lt, beq_eq_false_iff_ne, Nat.zero_add]; omega)) (Rl.t (by first | omega | (simp only [decide_eq_true_eq, decide_eq_false_iff_not, Int.toNat_natCast, beq_iff_eq, bne_iff_ne, ne_eq, Int.not_lt, Int.not_le, ge_iff_le, gt_iff_lt, beq_eq_false_iff_ne, Nat.zero_add]; omega)) (Rl.at (by rw [Int.toNat_natCast]; exact eg) (Rl.bind hx (Rl.t (by decide) (Rl.pure _)))))) f0.length 0 (by omega) (by omega)
 have hall : f0.all qbV = true ↔ ∀ j, 0 ≤ j → j < f0.length → ∀ x, f0[j]? = some x → qbV x = true := by
  rw [List.all_eq_true]
  exact ⟨fun h j _ _ x hx => h x (List.mem_of_getElem? hx), fun h x hx => by
   obtain ⟨j, hj, e⟩ := List.mem_iff_getElem.1 hx
   exact h j (Nat.zero_le _) hj x (by rw [List.getElem?_eq_getElem hj, e])⟩
 refine ⟨(90, f0, f1, f2, f3, f4), rfl, ?_⟩
 rcases b2 with ⟨b2, rfl⟩ | ⟨b2, a, rfl, rfl⟩
 ·rw [if_pos (hall.2 b2)]; exact b1.diag
 ·rw [if_neg (fun h => b2 (hall.1 h))]; exact b1.diag
theorem qqI (d : Dv) (hd : d ∈ f1) : Rn (fun k => qfn k f0 f1 f2 f3 f4 d.1 d.2.1 d.2.2.1 d.2.2.2.1 d.2.2.2.2.1.1 d.2.2.2.2.1.2 d.2.2.2.2.2.1.1 d.2.2.2.2.2.1.2.1 d.2.2.2.2.2.1.2.2 d.2.2.2.2.2.2.1 d.2.2.2.2.2.2.2.1 d.2.2.2.2.2.2.2.2.1 d.2.2.2.2.2.2.2.2.2) (qeX f0.length f1 d) := by
 have h := g.dv d hd
 have a1 := h.nm
 have a2 := h.nd
 have a3 := h.wv
 have a4 := h.ws
 have a5 := h.mn
 have a6 := h.mg
 have a7 := h.mv
 exact qqH f0 f1 f2 f3 f4 _ _ _ _ _ _ _ _ _ _ _ _ _ a1 (by omega) (by omega) (by omega) (by omega) (by omega) (by omega)
theorem qpj : ∀ (d i : Nat) (ls : List ByteArray), i + d = f1.length → ls = (f1.take i).map (fun d => d.2.1) →
  ∃ a, a.1 = (90 : Int) ∧ Rl (fun k q => qaq k q ls.length f1 f1.length (i : Int) f0 f1 f2 f3 f4 ls) (if (f1.drop i).all (qeX f0.length f1) = true then .inr (f1.length, f0, f1, f2, f3, f4, f1.map fun d => d.2.1) else .inl a) := by
 intro d
 induction d with
 | zero =>
  intro i ls e hl
  obtain rfl : i = f1.length := by omega
  rw [List.take_length] at hl
  refine ⟨(90, f0, f1, f2, f3, f4, [], 0, ByteArray.mk #[], [], 0, 0, 0, 0, [], [], ByteArray.mk #[], 0, [], []), rfl, Rl.up (f := fun k q => qaq k q ls.length f1 f1.length (f1.length : Int) f0 f1 f2 f3 f4 ls) ?_⟩
  show Rl (fun k q => qcw k (qaq k q) _ _ _ _ _ _ _ _ _ _) _
  unfold qcw
  rw [List.drop_length, if_pos (by rfl), hl, List.length_map]
  exact Rl.f (by first | omega | (simp only [decide_eq_true_eq, decide_eq_false_iff_not, Int.toNat_natCast, beq_iff_eq, bne_iff_ne, ne_eq, Int.not_lt, Int.not_le, ge_iff_le, gt_iff_lt, beq_eq_false_iff_ne, Nat.zero_add]; omega)) (Rl.pure _)
 | succ d ih =>
  intro i ls e hl
  have hi : i < f1.length := by omega
  have hm := List.getElem_mem hi
  have eg : f1[i]? = some f1[i] := List.getElem?_eq_getElem hi
  have edr : f1.drop i = f1[i] :: f1.drop (i + 1) := List.drop_eq_getElem_cons hi
  have et : f1.take (i + 1) = f1.take i ++ [f1[i]] := by rw [List.take_add_one, eg]; rfl
  generalize f1[i] = x at eg edr et hm
  have hx := qqI f0 f1 f2 f3 f4 g x hm
  have hg := g.l1
  have hlen : ls.length = i := by rw [hl, List.length_map, List.length_take]; omega
  rw [edr, List.all_cons]
  cases hb : qeX f0.length f1 x
  ·rw [hb] at hx
   refine ⟨(90, f0, f1, f2, f3, f4, ls, x.1, x.2.1, x.2.2.1, x.2.2.2.1, x.2.2.2.2.1.1, x.2.2.2.2.1.2, x.2.2.2.2.2.1.1, x.2.2.2.2.2.1.2.1, x.2.2.2.2.2.1.2.2, x.2.2.2.2.2.2.1, x.2.2.2.2.2.2.2.1, x.2.2.2.2.2.2.2.2.1, x.2.2.2.2.2.2.2.2.2), rfl, Rl.up (f := fun k q => qaq k q ls.length f1 f1.length (i : Int) f0 f1 f2 f3 f4 ls) ?_⟩
   show Rl (fun k q => qcw k (qaq k q) _ _ _ _ _ _ _ _ _ _) _
   unfold qcw
   rw [Bool.false_and, if_neg (by decide)]
   exact Rl.t (by first | omega | (simp only [decide_eq_true_eq, decide_eq_false_iff_not, Int.toNat_natCast, beq_iff_eq, bne_iff_ne, ne_eq, Int.not_lt, Int.not_le, ge_iff_le, gt_iff_lt, beq_eq_false_iff_ne, Nat.zero_add]; omega)) (Rl.t (by first | omega | (simp only [decide_eq_true_eq, decide_eq_false_iff_not, Int.toNat_natCast, beq_iff_eq, bne_iff_ne, ne_eq, Int.not_lt, Int.not_le, ge_iff_le, gt_iff_lt, beq_eq_false_iff_ne, Nat.zero_add]; omega)) (Rl.at (by rw [Int.toNat_natCast]; exact eg) (Rl.bind hx (Rl.t (by decide) (Rl.pure _)))))
  ·rw [hb] at hx
   obtain ⟨a, ha, b⟩ := ih (i + 1) (ls ++ [x.2.1]) (by omega) (by rw [et, List.map_append, ← hl]; rfl)
   refine ⟨a, ha, Rl.up (f := fun k q => qaq k q ls.length f1 f1.length (i : Int) f0 f1 f2 f3 f4 ls) ?_⟩
   show Rl (fun k q => qcw k (qaq k q) _ _ _ _ _ _ _ _ _ _) _
   unfold qcw
   rw [qf (x := (i : Int) + 1) (by omega), Bool.true_and]
   have e1 : List.take 1 [x.2.1] = [x.2.1] := rfl
   refine Rl.t (by first | omega | (simp only [decide_eq_true_eq, decide_eq_false_iff_not, Int.toNat_natCast, beq_iff_eq, bne_iff_ne, ne_eq, Int.not_lt, Int.not_le, ge_iff_le, gt_iff_lt, beq_eq_false_iff_ne, Nat.zero_add]; omega)) (Rl.t (by first | omega | (simp only [decide_eq_true_eq, decide_eq_false_iff_not, Int.toNat_natCast, beq_iff_eq, bne_iff_ne, ne_eq, Int.not_lt, Int.not_le, ge_iff_le, gt_iff_lt, beq_eq_false_iff_ne, Nat.zero_add]; omega)) (Rl.at (by rw [Int.toNat_natCast]; exact eg) (Rl.bind hx (Rl.f (by decide) (Rl.t (Nat.le_refl _) (Rl.t (by rw [e1]; simp only [List.length_singleton]; omega) ?_))))))
   rw [e1, List.take_length]
   rw [List.length_append] at b
   exact b
theorem qkY : Rn (fun k => qek k f0 f1 f2 f3 f4) (chk f0 f1 f2 f3 f4) := by
 refine Rn.up (f := fun k => qek k f0 f1 f2 f3 f4) ?_
 show Rn (fun k => qgr k f0 f1 f2 f3 f4) _
 have g0 := g.l0
 have g1 := g.l1
 obtain ⟨a1, a2, K1, h1⟩ := qni f0 f1 f2 f3 f4 g
 obtain ⟨c1, c2, c3⟩ := qpj f0 f1 f2 f3 f4 g f1.length 0 [] (by omega) rfl
 obtain ⟨K2, h2⟩ := c3.diag
 obtain ⟨K3, h3⟩ := qc7 f2 f3
 obtain ⟨K4, h4⟩ := qkW f0 (by omega)
 obtain ⟨K5, h5⟩ := qkW (f1.map fun d => d.2.1) (by rw [List.length_map]; omega)
 obtain ⟨K6, h6⟩ := qt4 f0 f1 f2 f3 f4 g0 g1
 refine ⟨K1 + K2 + K3 + K4 + K5 + K6, fun k hk => ?_⟩
 have e1 : qaG k k f0 f0.length 0 f0 f1 f2 f3 f4 = _ := h1 k (by omega)
 have e2 : qaq k k 0 f1 f1.length 0 f0 f1 f2 f3 f4 [] = _ := h2 k (by omega)
 have e3 : qW k f2 f3 = _ := h3 k (by omega)
 have e4 : qbT k f0 = _ := h4 k (by omega)
 have e5 : qbT k (f1.map fun d => d.2.1) = _ := h5 k (by omega)
 have e6 : qc6 k f0 f1 f2 f3 f4 = _ := h6 k (by omega)
 clear h1 h2 h3 h4 h5 h6 hk c3 g
 show qgr k f0 f1 f2 f3 f4 = _
 unfold qgr chk qeu
 rw [e3, Option.bind_some]
 cases hn : okN f2 f3
 ·simp
 rw [if_pos (by rfl)]
 by_cases p2 : 0 < f2
 rotate_left
 ·rw [if_neg (by simpa using p2)]; simp [p2]
 rw [if_pos (by simpa using p2)]
 by_cases q : f4 = 1 ∨ f4 = 2
 rotate_left
 ·rw [if_pos (by simp; omega), if_pos (by simp; omega)]; simp [q]
 rcases q with q | q
 ·rw [if_neg (by simp [q])]
  by_cases l1 : 1 ≤ f0.length
  rotate_left
  ·rw [if_neg (by rw [decide_eq_false_iff_not]; omega)]; simp [l1]
  rw [if_pos (by rw [decide_eq_false_iff_not]; omega)]
  by_cases l2 : f0.length ≤ 32
  rotate_left
  ·rw [if_neg (by rw [decide_eq_false_iff_not]; omega)]; simp [l2]
  rw [if_pos (by rw [decide_eq_false_iff_not]; omega)]
  obtain ⟨x, r, ex⟩ : ∃ x r, f0 = x :: r := by cases f0 with | nil => simp at l1 | cons x r => exact ⟨x, r, rfl⟩
  have ex0 : f0[0]? = some x := by rw [ex]; rfl
  have exh : (f0.map dl).headD [] = dl x := by rw [ex]; rfl
  rw [ex0, Option.bind_some]
  by_cases hz : dl x = b0
  rotate_left
  ·rw [if_neg (by simp only [Bool.not_eq_false', beq_iff_eq]; exact hz)]; rw [decide_eq_false (p := (f0.map dl).headD [] = b0) (by rw [exh]; exact hz)]; simp
  rw [if_pos (by simp only [Bool.not_eq_false', beq_iff_eq]; exact hz)]
  by_cases l3 : f1.length ≤ 64
  rotate_left
  ·rw [if_neg (by rw [decide_eq_false_iff_not]; omega)]; simp [l3]
  rw [if_pos (by rw [decide_eq_false_iff_not]; omega), e4, Option.bind_some]
  cases ht : twB f0
  rotate_left
  ·simp
  rw [if_neg (by decide), e1, Option.bind_some]
  cases hl : f0.all qbV
  ·simp [qc, a2]
  rw [if_pos rfl]
  show Option.bind (qaq k k 0 f1 f1.length 0 f0 f1 f2 f3 f4 []) _ = _
  rw [List.drop_zero] at e2
  erw [e2]
  rw [Option.bind_some]
  cases hd : f1.all (qeX f0.length f1)
  ·simp [qc, c2]
  rw [if_pos rfl]
  show (if 0 + f1.length ≤ (f1.map fun d => d.2.1).length then _ else none) = _
  rw [if_pos (by rw [List.length_map]; omega)]
  show Option.bind (qbT k (List.take f1.length (f1.map fun d => d.2.1))) _ = _
  rw [List.take_of_length_le (by rw [List.length_map]; omega), e5, Option.bind_some]
  cases hw : twB (f1.map fun d => d.2.1)
  rotate_left
  ·simp
  rw [if_neg (by decide)]
  show Option.bind (qc6 k f0 f1 f2 f3 f4) _ = _
  rw [e6, Option.bind_some, exh]
  simp only [p2, q, l1, l2, l3, hz, decide_true, Bool.and_true, Bool.not_false, and_self, if_true, true_or, or_true]
  by_cases l4 : (48 : Int) < (f0.length : Int) - 1 + qfL f1
  ·rw [if_pos (by rw [decide_eq_true_eq]; exact l4), if_pos l4]
  ·rw [if_neg (by rw [decide_eq_true_eq]; exact l4), if_neg l4]
 ·rw [if_pos (by simp [q]), if_neg (by simp [q])]
  by_cases l1 : 1 ≤ f0.length
  rotate_left
  ·rw [if_neg (by rw [decide_eq_false_iff_not]; omega)]; simp [l1]
  rw [if_pos (by rw [decide_eq_false_iff_not]; omega)]
  by_cases l2 : f0.length ≤ 32
  rotate_left
  ·rw [if_neg (by rw [decide_eq_false_iff_not]; omega)]; simp [l2]
  rw [if_pos (by rw [decide_eq_false_iff_not]; omega)]
  obtain ⟨x, r, ex⟩ : ∃ x r, f0 = x :: r := by cases f0 with | nil => simp at l1 | cons x r => exact ⟨x, r, rfl⟩
  have ex0 : f0[0]? = some x := by rw [ex]; rfl
  have exh : (f0.map dl).headD [] = dl x := by rw [ex]; rfl
  rw [ex0, Option.bind_some]
  by_cases hz : dl x = b0
  rotate_left
  ·rw [if_neg (by simp only [Bool.not_eq_false', beq_iff_eq]; exact hz)]; rw [decide_eq_false (p := (f0.map dl).headD [] = b0) (by rw [exh]; exact hz)]; simp
  rw [if_pos (by simp only [Bool.not_eq_false', beq_iff_eq]; exact hz)]
  by_cases l3 : f1.length ≤ 64
  rotate_left
  ·rw [if_neg (by rw [decide_eq_false_iff_not]; omega)]; simp [l3]
  rw [if_pos (by rw [decide_eq_false_iff_not]; omega), e4, Option.bind_some]
  cases ht : twB f0
  rotate_left
  ·simp
  rw [if_neg (by decide), e1, Option.bind_some]
  cases hl : f0.all qbV
  ·simp [qc, a2]
  rw [if_pos rfl]
  show Option.bind (qaq k k 0 f1 f1.length 0 f0 f1 f2 f3 f4 []) _ = _
  rw [List.drop_zero] at e2
  erw [e2]
  rw [Option.bind_some]
  cases hd : f1.all (qeX f0.length f1)
  ·simp [qc, c2]
  rw [if_pos rfl]
  show (if 0 + f1.length ≤ (f1.map fun d => d.2.1).length then _ else none) = _
  rw [if_pos (by rw [List.length_map]; omega)]
  show Option.bind (qbT k (List.take f1.length (f1.map fun d => d.2.1))) _ = _
  rw [List.take_of_length_le (by rw [List.length_map]; omega), e5, Option.bind_some]
  cases hw : twB (f1.map fun d => d.2.1)
  rotate_left
  ·simp
  rw [if_neg (by decide)]
  show Option.bind (qc6 k f0 f1 f2 f3 f4) _ = _
  rw [e6, Option.bind_some, exh]
  simp only [p2, q, l1, l2, l3, hz, decide_true, Bool.and_true, Bool.not_false, and_self, if_true, true_or, or_true]
  by_cases l4 : (48 : Int) < (f0.length : Int) - 1 + qfL f1
  ·rw [if_pos (by rw [decide_eq_true_eq]; exact l4), if_pos l4]
  ·rw [if_neg (by rw [decide_eq_true_eq]; exact l4), if_neg l4]
end
def Ref (A B : Nat → Nat) : Prop := ∀ x y, A x = A y → B x = B y
theorem Ref.jn {A B : Nat → Nat} (h : Ref A B) (a b : Nat) : Ref (Am.jn A a b) (Am.jn B a b) := by
 intro x y e
 unfold Am.jn at e ⊢
 by_cases c1 : A x = A a
 ·have d1 := h _ _ c1
  rw [if_pos c1] at e
  rw [if_pos d1]
  by_cases c2 : A y = A a
  ·rw [if_pos (h _ _ c2)]
  ·rw [if_neg c2] at e
   have d2 := h _ _ e
   split <;> simp_all
 ·rw [if_neg c1] at e
  by_cases c2 : A y = A a
  ·rw [if_pos c2] at e
   have d2 := h _ _ c2
   have d3 := h _ _ e
   rw [if_pos d2]
   split <;> simp_all
  ·rw [if_neg c2] at e
   rw [h _ _ e]
theorem Ref.jn1 {A B : Nat → Nat} (h : Ref A B) (a b : Nat) : Ref A (Am.jn B a b) := by
 intro x y e
 unfold Am.jn
 rw [h _ _ e]
theorem Ref.tie {A B : Nat → Nat} (h : Ref A B) {s t : ByteArray} (d : Dv) (hs : 0 ≤ qbX s d.1 → 0 ≤ qbX t d.1) : Ref (Am.tie s A d) (Am.tie t B d) := by
 have key : Ref (if 0 ≤ qbX s d.1 then Am.jn A (nd d 0) (nd d 1) else A) (if 0 ≤ qbX t d.1 then Am.jn B (nd d 0) (nd d 1) else B) := by
  by_cases c1 : 0 ≤ qbX s d.1
  ·rw [if_pos c1, if_pos (hs c1)]; exact h.jn _ _
  ·rw [if_neg c1]
   split
   ·exact h.jn1 _ _
   ·exact h
 unfold Am.tie
 split
 ·exact key.jn _ _
 ·exact key
theorem Ref.ties {s t : ByteArray} (hs : ∀ c, 0 ≤ qbX s c → 0 ≤ qbX t c) : ∀ (l : List Dv) (A B : Nat → Nat), Ref A B → Ref (l.foldl (Am.tie s) A) (l.foldl (Am.tie t) B)
 | [], _, _, h => h
 | d :: l, A, B, h => Ref.ties hs l _ _ (h.tie d (hs _))
theorem qhH (rt : Nat → Nat) : ∀ (n : Nat) (x : Int), x ∈ flo rt n ↔ ∃ i : Nat, i < n ∧ rt i ≠ rt 0 ∧ x = (i : Int)
 | 0, x => by simp [flo]
 | n + 1, x => by
  have ih := qhH rt n x
  unfold flo
  split
  ·rename_i c
   rw [ih]
   exact ⟨fun ⟨i, a, b, e⟩ => ⟨i, by omega, b, e⟩, fun ⟨i, a, b, e⟩ => ⟨i, by rcases Nat.lt_or_ge i n with k | k; exact k; exact absurd ((show i = n by omega) ▸ c) b, b, e⟩⟩
  ·rename_i c
   rw [List.mem_append, ih, List.mem_singleton]
   constructor
   ·rintro (⟨i, a, b, e⟩ | e)
    ·exact ⟨i, by omega, b, e⟩
    ·exact ⟨n, by omega, c, e⟩
   ·rintro ⟨i, a, b, e⟩
    rcases Nat.lt_or_ge i n with k | k
    ·exact .inl ⟨i, k, b, e⟩
    ·exact .inr (by rw [e]; omega)
theorem qgR (rt : Nat → Nat) : ∀ n, (flo rt n).Pairwise (· < ·)
 | 0 => List.Pairwise.nil
 | n + 1 => by
  unfold flo
  split
  ·exact qgR rt n
  ·rw [List.pairwise_append]
   refine ⟨qgR rt n, List.pairwise_singleton _ _, fun a ha b hb => ?_⟩
   obtain ⟨i, h1, _, rfl⟩ := (qhH rt n a).1 ha
   rw [List.mem_singleton] at hb
   omega
theorem qn1 (c : UInt8) : ∀ l : List UInt8, 0 ≤ Go.Lib.indexByte l c ↔ c ∈ l
 | [] => by simp [Go.Lib.indexByte]
 | b :: l => by
  have ih := qn1 c l
  have hg := Go.Lib.indexByte_ge l c
  unfold Go.Lib.indexByte
  by_cases e : (b == c) = true
  ·rw [if_pos e]
   have : b = c := by simpa using e
   simp [this]
  ·rw [if_neg e]
   have hne : ¬ c = b := fun h => e (by simp [h])
   by_cases e2 : (Go.Lib.indexByte l c == -1) = true
   ·rw [if_pos e2]
    have e3 : Go.Lib.indexByte l c = -1 := by simpa using e2
    have : ¬ c ∈ l := fun h => by have := ih.2 h; omega
    simp [hne, this]
   ·rw [if_neg e2]
    have e3 : ¬ Go.Lib.indexByte l c = -1 := by simpa using e2
    have : c ∈ l := ih.1 (by omega)
    simp only [List.mem_cons, this, or_true, iff_true]
    omega
theorem qif (s : ByteArray) (c : Int) : 0 ≤ qbX s c ↔ c.toNat.toUInt8 ∈ s.data.toList := qn1 _ _
def bOp : ByteArray := ByteArray.mk (List.toArray [114, 108, 118, 101, 104, 116, 100, 115])
def qeY : ByteArray := bOp ++ ByteArray.mk (List.toArray [99])
theorem qpk : qeY.data.toList = [114, 108, 118, 101, 104, 116, 100, 115, 99] := by decide +kernel
section
variable (b : List Int) (hb : b.length ≤ 1000000000) (sb : b.Pairwise (· < ·))
include hb sb
end
def Chk (f0 : List ByteArray) (f1 : List Dv) (c : Int) : Prop := c = 0 → 1 ≤ f0.length ∧ f0.length ≤ 1000000000 ∧ f1.length ≤ 1000000000 ∧ ∀ d ∈ f1, OkD f0.length d
section
variable (f0 : List ByteArray) (f1 : List Dv) (f2 f3 f4 c : Int) (hc : Rn (fun k => qek k f0 f1 f2 f3 f4) c) (hok : Chk f0 f1 c)
include hc
theorem qqJ (mode : Int) (hm : mode = 1 ∨ mode = 2) : Rn (fun k => qd6 k f0 f1 f2 f3 f4 mode) c := by
 refine Rn.up (f := fun k => qd6 k f0 f1 f2 f3 f4 mode) ?_
 show Rn (fun k => qf6 k f0 f1 f2 f3 f4 mode) _
 unfold qf6
 refine Rn.bind hc ?_
 by_cases h : c = 0
 ·subst h
  rcases hm with rfl | rfl
  ·exact Rn.f (by decide) (Rn.f (by decide) (Rn.pure _))
  ·exact Rn.f (by decide) (Rn.t (by decide) (Rn.f (by decide) (Rn.pure _)))
 ·exact Rn.t (by simp [h]) (Rn.pure _)
def flR (first : ByteArray) (f1 : List Dv) : Nat → Nat := f1.foldl (tie first) id
include hok
theorem qqK (mode : Int) (hm : mode = 1 ∨ mode = 2) : ∃ l : List Int, Rn (fun k => qax k f0 f1 f2 f3 f4 mode) (l.length, c, l) ∧ l = if c = 0 then flo (flR (if mode = 2 then qeY else bOp) f1) f0.length else [] := by
 refine ⟨_, Rn.up (f := fun k => qax k f0 f1 f2 f3 f4 mode) ?_, rfl⟩
 show Rn (fun k => qeK k f0 f1 f2 f3 f4 mode) _
 unfold qeK
 refine Rn.bind (qqJ f0 f1 f2 f3 f4 c hc mode hm) ?_
 by_cases h : c = 0
 ·rw [if_pos h]
  obtain ⟨k1, k2, k3, k4⟩ := hok h
  obtain ⟨s0, u0, v0⟩ := qkf f0.length k2
  refine Rn.f (by simp [h]) (Rn.bind v0 ?_)
  by_cases m2 : mode = 2
  ·rw [if_pos m2]
   obtain ⟨s1, dp1, u1, v1⟩ := qnV k2 qeY f0 f1 f2 f3 f4 k3 k4 f1.length 0 s0 id _ u0 (by omega)
   obtain ⟨s2, v2⟩ := qnU k2 f0.length 0 s1 u1 (by omega)
   rw [h]
   exact Rn.t (by simp [m2]) (Rn.bind v1.diag (Rn.bind v2.diag (Rn.pure _)))
  ·rw [if_neg m2]
   obtain ⟨s1, dp1, u1, v1⟩ := qnV k2 bOp f0 f1 f2 f3 f4 k3 k4 f1.length 0 s0 id _ u0 (by omega)
   obtain ⟨s2, v2⟩ := qnU k2 f0.length 0 s1 u1 (by omega)
   rw [h]
   exact Rn.f (by simp [m2]) (Rn.bind v1.diag (Rn.bind v2.diag (Rn.pure _)))
 ·rw [if_neg h]
  exact Rn.t (by simp [h]) (Rn.pure _)
theorem qr9 (mode : Int) (hm : mode = 1 ∨ mode = 2) : ∃ l : List Int, Rn (fun k => qak k f0 f1 f2 f3 f4 mode) (l.length, c, l) ∧ l = if c = 0 then lps mode f1 0 id else [] := by
 refine ⟨_, Rn.up (f := fun k => qak k f0 f1 f2 f3 f4 mode) ?_, rfl⟩
 show Rn (fun k => qfo k f0 f1 f2 f3 f4 mode) _
 unfold qfo
 refine Rn.bind (qqJ f0 f1 f2 f3 f4 c hc mode hm) ?_
 by_cases h : c = 0
 ·rw [if_pos h]
  obtain ⟨k1, k2, k3, k4⟩ := hok h
  obtain ⟨s0, u0, v0⟩ := qkf f0.length k2
  obtain ⟨s1, v1⟩ := qxb k2 mode f1 k3 k4 f1.length 0 s0 id _ [] u0 (by omega) (by simp)
  rw [h]
  exact Rn.f (by simp) (Rn.bind v0 (Rn.bind v1.diag (Rn.pure _)))
 ·rw [if_neg h]
  exact Rn.t (by simp [h]) (Rn.pure _)
end
theorem qpo {c : Int} (h : 0 ≤ c ∧ c < 256) (n : Nat) (hn : n < 256) : c.toNat.toUInt8 = n.toUInt8 ↔ c = n := by
 constructor
 ·intro e
  have := congrArg UInt8.toNat e
  rw [Nat.toUInt8_eq, Nat.toUInt8_eq, UInt8.toNat_ofNat', UInt8.toNat_ofNat'] at this
  rw [Nat.mod_eq_of_lt (by omega), Nat.mod_eq_of_lt (by omega)] at this
  omega
 ·rintro rfl; rfl
theorem qxd {n : Nat} {f1 : List Dv} {d : Dv} (g : GoodD d) (h : qeX n f1 d = true) : OkD n d := by
 unfold qeX okR at h
 simp only [Bool.and_eq_true, decide_eq_true_eq] at h
 obtain ⟨⟨⟨⟨h1, h2⟩, h3⟩, h4⟩, h5⟩ := h
 have hk : qal d.1 = 2 ∨ qal d.1 = 4 := by
  unfold qal at h1 ⊢
  repeat' split
  all_goals first | omega | (exfalso; revert h1; simp_all)
 have h4' := (qfK (l := d.2.2.1)).1 h4
 refine ⟨fun i hi => ?_, by omega, fun he => ?_⟩
 ·have := h4' i (by omega) hi
  rwa [decide_eq_true_eq] at this
 ·have hm := (qif _ _).1 he
  have hk4 : qal d.1 = 4 := by
   have e : d.1 = 101 ∨ d.1 = 103 ∨ d.1 = 116 := by
    change d.1.toNat.toUInt8 ∈ [(101 : UInt8), 103, 116] at hm
    simp only [List.mem_cons, List.not_mem_nil, or_false] at hm
    rcases hm with hm | hm | hm
    ·exact .inl ((qpo g.kd 101 (by omega)).1 hm)
    ·exact .inr (.inl ((qpo g.kd 103 (by omega)).1 hm))
    ·exact .inr (.inr ((qpo g.kd 116 (by omega)).1 hm))
   rcases e with e | e | e <;> rw [e] <;> rfl
  omega
theorem qsb {f0 : List ByteArray} {f1 : List Dv} {f2 f3 f4 : Int} (h : chk f0 f1 f2 f3 f4 = 0) : qeu f0 f1 f2 f3 f4 = true := by
 unfold chk at h
 split at h
 ·assumption
 ·omega
theorem qn2 {f0 : List ByteArray} {f1 : List Dv} {f2 f3 f4 : Int} (g : Gd f0 f1) : Chk f0 f1 (chk f0 f1 f2 f3 f4) := by
 intro h
 have h := qsb h
 unfold qeu at h
 simp only [Bool.and_eq_true, decide_eq_true_eq] at h
 have hd := List.all_eq_true.1 h.1.2
 have hl := h.1.1.1.1.1.1.2
 exact ⟨hl.1, by omega, g.l1, fun d hd' => qxd (g.dv d hd') (hd d hd')⟩
abbrev qkj : Cd := .pr (.int .i64) (.int .i64)
abbrev qyO : Cd := .pr (.int .u8) (.pr .str (.pr (.sl (.int .i64)) (.pr (.int .i64) (.pr qkj (.pr (.pr (.int .i64) (.pr (.sl qkj) (.sl (.int .i64)))) (.pr .str (.pr (.int .u8) (.pr (.sl qkj) (.sl qkj)))))))))
abbrev qkk : Cd := .pr (.sl .str) (.pr (.sl qyO) (.pr qkj (.int .i64)))
theorem qyP {x : qkk.D} (w : qgl 8589934592 qkk x) : Gd x.1 x.2.1 := by
 obtain ⟨⟨⟨_, w0⟩, w1⟩, ⟨⟨_, w2⟩, w3⟩, _⟩ := w
 simp only [Cd.by] at w0 w2
 refine ⟨by omega, by omega, fun s hs => ?_, fun d hd => ?_⟩
 ·have := (w1 s hs).2
  omega
 ·obtain ⟨k0, ⟨_, k1⟩, ⟨⟨_, k2⟩, _⟩, _, _, ⟨_, ⟨⟨_, k3⟩, _⟩, ⟨_, k4⟩, _⟩, ⟨_, k5⟩, _, ⟨⟨_, k6⟩, _⟩, ⟨_, k7⟩, _⟩ := w3 d hd
  simp only [Cd.by] at k2 k3 k4 k6 k7
  simp only [qgl, Lit.wf, IntKind.min, IntKind.max, IntKind.signed, IntKind.bits] at k0
  refine ⟨?_, by omega, by omega, by omega, by omega, by omega, by omega, by omega⟩
  simp at k0
  omega
def J (rt : Nat → Nat) (p : Nat × Nat) : Nat → Nat := jn rt p.1 p.2
theorem Ref.rfl' (A : Nat → Nat) : Ref A A := fun _ _ e => e
theorem Ref.trans' {A B C : Nat → Nat} (h : Ref A B) (k : Ref B C) : Ref A C := fun x y e => k x y (h x y e)
theorem qsc (A B C D X Y : Nat)
  (e : (if (if X = A then B else X) = (if C = A then B else C) then (if D = A then B else D) else (if X = A then B else X)) = (if (if Y = A then B else Y) = (if C = A then B else C) then (if D = A then B else D) else (if Y = A then B else Y))) :
  (if (if X = C then D else X) = (if A = C then D else A) then (if B = C then D else B) else (if X = C then D else X)) = (if (if Y = C then D else Y) = (if A = C then D else A) then (if B = C then D else B) else (if Y = C then D else Y)) := by
 grind
theorem Ref.swap (rt : Nat → Nat) (p q : Nat × Nat) : Ref (J (J rt p) q) (J (J rt q) p) := by
 intro x y e
 unfold Am.J Am.jn at e ⊢
 exact qsc _ _ _ _ _ _ e
theorem Ref.J {A B : Nat → Nat} (h : Ref A B) (p : Nat × Nat) : Ref (Am.J A p) (Am.J B p) := h.jn _ _
theorem Ref.folds : ∀ (l : List (Nat × Nat)) {A B : Nat → Nat}, Ref A B → Ref (l.foldl Am.J A) (l.foldl Am.J B)
 | [], _, _, h => h
 | p :: l, _, _, h => Ref.folds l (h.J p)
theorem Ref.perm {l m : List (Nat × Nat)} (hp : l.Perm m) : ∀ {A B : Nat → Nat}, Ref A B → Ref (l.foldl Am.J A) (m.foldl Am.J B) := by
 induction hp with
 | nil => exact fun h => h
 | cons p _ ih => exact fun h => ih (h.J p)
 | swap p q l => exact fun h => Ref.folds l (((h.J q).J p).trans' (Ref.swap _ _ _))
 | trans _ _ ih1 ih2 => exact fun h => (ih1 h).trans' (ih2 (Ref.rfl' _))
def qex : List (Nat × Nat) → (Nat → Nat) → Nat
 | [], _ => 0
 | p :: l, rt => (if rt p.1 = rt p.2 then 1 else 0) + qex l (J rt p)
theorem qhx : ∀ (l : List (Nat × Nat)) {A B : Nat → Nat}, Ref A B → Ref B A → qex l A = qex l B
 | [], _, _, _, _ => rfl
 | p :: l, A, B, h, k => by
  rw [qex, qex, qhx l (h.J p) (k.J p)]
  by_cases c : A p.1 = A p.2
  ·rw [if_pos c, if_pos (h _ _ c)]
  ·rw [if_neg c, if_neg fun e => c (k _ _ e)]
theorem qsd (A B C D : Nat) : (if A = B then 1 else 0) + (if (if C = A then B else C) = (if D = A then B else D) then 1 else 0) = (if C = D then 1 else 0) + (if (if A = C then D else A) = (if B = C then D else B) then 1 else (0 : Nat)) := by
 grind
theorem qpp {l m : List (Nat × Nat)} (hp : l.Perm m) : ∀ {A B : Nat → Nat}, Ref A B → Ref B A → qex l A = qex m B := by
 induction hp with
 | nil => exact fun _ _ => rfl
 | cons p _ ih =>
  intro A B h k
  rw [qex, qex, ih (h.J p) (k.J p)]
  by_cases c : A p.1 = A p.2
  ·rw [if_pos c, if_pos (h _ _ c)]
  ·rw [if_neg c, if_neg fun e => c (k _ _ e)]
 | swap p q l =>
  intro A B h k
  rw [qhx (q :: p :: l) h k]
  simp only [qex]
  rw [qhx l (Ref.swap B q p) (Ref.swap B p q), ← Nat.add_assoc, ← Nat.add_assoc]
  congr 1
  unfold J jn
  exact qsd _ _ _ _
 | trans _ _ ih1 ih2 => exact fun h k => (ih1 h k).trans (ih2 (Ref.rfl' _) (Ref.rfl' _))
def edg (first : ByteArray) (d : Dv) : List (Nat × Nat) := (if 0 ≤ qbX first d.1 then [(nd d 0, nd d 1)] else []) ++ (if 0 ≤ qbX qiz d.1 then [(nd d 2, nd d 3)] else [])
theorem qt6 (first : ByteArray) (rt : Nat → Nat) (d : Dv) : tie first rt d = (edg first d).foldl J rt := by
 unfold tie edg
 by_cases c1 : 0 ≤ qbX first d.1 <;> by_cases c2 : 0 ≤ qbX qiz d.1 <;> simp [c1, c2, J]
theorem qjD (first : ByteArray) : ∀ (l : List Dv) (rt : Nat → Nat), l.foldl (tie first) rt = (l.flatMap (edg first)).foldl J rt
 | [], _ => rfl
 | d :: l, rt => by rw [List.foldl_cons, qjD first l, List.flatMap_cons, List.foldl_append, qt6]
def lkE (mode : Int) (d : Dv) : List (Nat × Nat) := if LK mode d then [(nd d 0, nd d 1)] else []
theorem qgC (mode : Int) : ∀ (l : List Dv) (i : Nat) (rt : Nat → Nat), (lps mode l i rt).length = qex (l.flatMap (lkE mode)) rt
 | [], _, _ => rfl
 | d :: l, i, rt => by
  have ih := fun rt => qgC mode l (i + 1) rt
  rw [lps, List.flatMap_cons]
  by_cases c : LK mode d
  ·rw [if_pos c, lkE, if_pos c, List.singleton_append, qex]
   split
   ·rename_i h
    rw [List.length_cons, ih, Nat.add_comm]; rfl
   ·rename_i h
    rw [ih, Nat.zero_add]; rfl
  ·rw [if_neg c, lkE, if_neg c, ih]; rfl
theorem qk0 {A B : Nat → Nat} (h : Ref A B) (k : Ref B A) : ∀ n, flo A n = flo B n
 | 0 => rfl
 | n + 1 => by
  rw [flo, flo, qk0 h k n]
  by_cases c : A n = A 0
  ·rw [if_pos c, if_pos (h _ _ c)]
  ·rw [if_neg c, if_neg fun e => c (k _ _ e)]
def qgt (l m : List Dv) : Prop := (l.map fun d => (d.1, d.2.2.1)).Perm (m.map fun d => (d.1, d.2.2.1))
theorem qgt.flat {l m : List Dv} (h : qgt l m) {β : Type} (f : Dv → List β) (g : Int × List Int → List β) (hg : ∀ d, f d = g (d.1, d.2.2.1)) : (l.flatMap f).Perm (m.flatMap f) := by
 have e : ∀ l : List Dv, l.flatMap f = (l.map fun d => (d.1, d.2.2.1)).flatMap g := fun l => by
  rw [List.flatMap_map]
  congr 1
  funext d
  exact hg d
 rw [e, e]
 exact h.flatMap_right _
theorem qgt.symm {l m : List Dv} (h : qgt l m) : qgt m l := List.Perm.symm h
theorem qgt.flo {l m : List Dv} (h : qgt l m) (first : ByteArray) (n : Nat) : Am.flo (l.foldl (tie first) id) n = Am.flo (m.foldl (tie first) id) n := by
 have key : ∀ {l m : List Dv}, qgt l m → Ref (l.foldl (tie first) id) (m.foldl (tie first) id) := by
  intro l m h
  rw [qjD, qjD]
  refine Ref.perm (h.flat (edg first) (fun p => (if 0 ≤ qbX first p.1 then [((p.2.getD 0 0).toNat, (p.2.getD 1 0).toNat)] else []) ++ (if 0 ≤ qbX qiz p.1 then [((p.2.getD 2 0).toNat, (p.2.getD 3 0).toNat)] else [])) (fun d => rfl)) (Ref.rfl' _)
 exact qk0 (key h) (key h.symm) n
theorem qgt.lps {l m : List Dv} (h : qgt l m) (mode : Int) : (Am.lps mode l 0 id).length = (Am.lps mode m 0 id).length := by
 rw [qgC, qgC]
 refine qpp (h.flat (lkE mode) (fun p => if p.1 = 118 ∨ p.1 = 108 ∧ mode = 1 then [((p.2.getD 0 0).toNat, (p.2.getD 1 0).toNat)] else []) (fun d => ?_)) (Ref.rfl' _) (Ref.rfl' _)
 unfold lkE LK nd
 rfl
section
variable (f0 : List ByteArray) (f1 : List Dv) (f2 f3 f4 : Int) (g : Gd f0 f1)
include g
theorem qqP (k : Nat) (rec : Int → List ByteArray → List Dv → Int → Int → Int → Nat → Nat → Int → Int → Int → Nat → Nat → Int → Int → Int → List ByteArray → List Dv → List ByteArray → List Dv → Option (List ByteArray × List Dv × Int × Int × Int × Nat × Nat × Int × Int × Int × Nat × Nat × Int × Int × Int × List ByteArray × List Dv × List ByteArray × List Dv))
  (i : Nat) (hi : i < f1.length) (x0 x1 : Nat) (x2 x3 x4 : Int) (o0 : Nat) (o2 o3 o4 : Int) (m : List ByteArray) (m1 : List Dv) (m2 : List ByteArray) (ls : List Dv) (hl : ls.length = i) :
  qbS k rec (i : Int) f0 f1 f2 f3 f4 x0 x1 x2 x3 x4 o0 ls.length o2 o3 o4 m m1 m2 ls = rec ((i + 1 : Nat) : Int) f0 f1 f2 f3 f4 x0 x1 x2 x3 x4 o0 (ls ++ [f1[i]]).length o2 o3 o4 m m1 m2 (ls ++ [f1[i]]) := by
 have eg : f1[i]? = some f1[i] := List.getElem?_eq_getElem hi
 have hg := g.dv _ (List.getElem_mem hi)
 have hl1 := g.l1
 generalize f1[i] = x at eg hg
 have a2 := hg.nd
 have a3 := hg.wv
 have a4 := hg.ws
 have a6 := hg.mg
 have a7 := hg.mv
 have w1 : IntKind.i64.wrap ((i : Int) + 1) = ((i + 1 : Nat) : Int) := by rw [qf (by omega)]; omega
 unfold qbS
 rw [if_pos (by rw [decide_eq_true_eq]; omega), if_pos (by omega), Int.toNat_natCast, eg, Option.bind_some]
 simp only [List.take_zero, List.nil_append, Nat.zero_add, List.take_length, w1, List.take_succ_cons, List.length_append, List.length_singleton]
 rw [if_pos (by omega), if_pos (by omega), if_pos (by omega), if_pos (by omega), if_pos (by omega), if_pos (Nat.le_refl _), if_pos (Nat.le_refl _), if_pos (Nat.le_refl _), if_pos (Nat.le_refl _), if_pos (Nat.le_refl _), if_pos (Nat.le_refl _), if_pos (by omega)]
theorem qqQ : ∀ (d i : Nat) (x0 x1 : Nat) (x2 x3 x4 : Int) (o0 : Nat) (o2 o3 o4 : Int) (m : List ByteArray) (m1 : List Dv) (m2 : List ByteArray) (ls : List Dv), i + d = f1.length → ls = f1.take i →
  Rl (fun k q => qbx k q (i : Int) f0 f1 f2 f3 f4 x0 x1 x2 x3 x4 o0 ls.length o2 o3 o4 m m1 m2 ls) (f0, f1, f2, f3, f4, x0, x1, x2, x3, x4, o0, f1.length, o2, o3, o4, m, m1, m2, f1) := by
 intro d
 induction d with
 | zero =>
  intro i x0 x1 x2 x3 x4 o0 o2 o3 o4 m m1 m2 ls e hl
  obtain rfl : i = f1.length := by omega
  rw [List.take_length] at hl
  subst hl
  refine Rl.up (f := fun k q => qbx k q (ls.length : Int) f0 ls f2 f3 f4 x0 x1 x2 x3 x4 o0 ls.length o2 o3 o4 m m1 m2 ls) ?_
  show Rl (fun k q => qbS k (qbx k q) _ _ _ _ _ _ _ _ _ _ _ _ _ _ _ _ _ _ _ _) _
  unfold qbS
  exact Rl.f (by simp) (Rl.pure _)
 | succ d ih =>
  intro i x0 x1 x2 x3 x4 o0 o2 o3 o4 m m1 m2 ls e hl
  have hi : i < f1.length := by omega
  have hlen : ls.length = i := by rw [hl, List.length_take]; omega
  refine Rl.up (f := fun k q => qbx k q (i : Int) f0 f1 f2 f3 f4 x0 x1 x2 x3 x4 o0 ls.length o2 o3 o4 m m1 m2 ls) ?_
  show Rl (fun k q => qbS k (qbx k q) _ _ _ _ _ _ _ _ _ _ _ _ _ _ _ _ _ _ _ _) _
  simp only [qqP f0 f1 f2 f3 f4 g _ _ i hi _ _ _ _ _ _ _ _ _ _ _ _ ls hlen]
  exact ih (i + 1) x0 x1 x2 x3 x4 o0 o2 o3 o4 m m1 m2 _ (by omega) (by rw [List.take_add_one, List.getElem?_eq_getElem hi, hl]; rfl)
theorem qt7 : Rn (fun k => qdn k f0 f1 f2 f3 f4) (f0.length, f1.length, f2, f3, f4, f0, f1) := by
 refine Rn.up (f := fun k => qdn k f0 f1 f2 f3 f4) ?_
 show Rn (fun k => qfI k f0 f1 f2 f3 f4) _
 unfold qfI
 have h0 := g.l0
 have h := qqQ f0 f1 f2 f3 f4 g f1.length 0 0 0 0 0 0 (0 + f0.length) f2 f3 f4 [] [] ((List.take 0 []) ++ f0) [] (by omega) rfl
 refine Rn.t (by omega) (Rn.bind h.diag (Rn.const (congrArg some ?_)))
 simp only [List.take_zero, List.nil_append, Nat.zero_add]
end
theorem qn3 (a b : List Int) (ha : a.length ≤ 1000000000000000000) : Rn (fun k => qb1 k a b) (decide (a = b)) := by
 refine Rn.up (f := fun k => qb1 k a b) ?_
 show Rn (fun k => qfJ k a b) _
 unfold qfJ
 by_cases hl : a.length = b.length
 rotate_left
 ·refine Rn.t (by rw [bne_iff_ne]; omega) (Rn.const (congrArg some (decide_eq_false fun e => hl (by rw [e])).symm))
 refine Rn.f (by rw [bne_iff_ne]; omega) ?_
 obtain ⟨o, b1, b2⟩ := qds a.length 0 (fun k q i => qay k q a b i) () (fun x => x = false) (fun j => a[j]? = b[j]?) (by
   refine Rl.up (f := fun k q => qay k q a b a.length) ?_
   show Rl (fun k q => qbp k (qay k q) _ _ _) _
   unfold qbp
   exact Rl.f (by simp) (Rl.pure _)) (by
   intro i hs hi hok o ho
   refine Rl.up (f := fun k q => qay k q a b i) ?_
   show Rl (fun k q => qbp k (qay k q) _ _ _) _
   unfold qbp
   rw [qf (x := (i : Int) + 1) (by omega)]
   have ea := List.getElem?_eq_getElem hi
   have eb := hok
   rw [ea] at eb
   exact Rl.t (by first | omega | (simp only [decide_eq_true_eq, decide_eq_false_iff_not, Int.toNat_natCast, beq_iff_eq, bne_iff_ne, ne_eq, Int.not_lt, Int.not_le, ge_iff_le, gt_iff_lt, beq_eq_false_iff_ne, Nat.zero_add]; omega)) (Rl.t (by first | omega | (simp only [decide_eq_true_eq, decide_eq_false_iff_not, Int.toNat_natCast, beq_iff_eq, bne_iff_ne, ne_eq, Int.not_lt, Int.not_le, ge_iff_le, gt_iff_lt, beq_eq_false_iff_ne, Nat.zero_add]; omega)) (Rl.at (by rw [Int.toNat_natCast]; exact ea) (Rl.t (by first | omega | (simp only [decide_eq_true_eq, decide_eq_false_iff_not, Int.toNat_natCast, beq_iff_eq, bne_iff_ne, ne_eq, Int.not_lt, Int.not_le, ge_iff_le, gt_iff_lt, beq_eq_false_iff_ne, Nat.zero_add]; omega)) (Rl.at (by rw [Int.toNat_natCast]; exact eb.symm) (Rl.f (by simp) ho)))))) (by
   intro i hs hi hok
   refine ⟨false, rfl, Rl.up (f := fun k q => qay k q a b i) ?_⟩
   show Rl (fun k q => qbp k (qay k q) _ _ _) _
   unfold qbp
   have ea := List.getElem?_eq_getElem hi
   have eb := List.getElem?_eq_getElem (show i < b.length by omega)
   exact Rl.t (by first | omega | (simp only [decide_eq_true_eq, decide_eq_false_iff_not, Int.toNat_natCast, beq_iff_eq, bne_iff_ne, ne_eq, Int.not_lt, Int.not_le, ge_iff_le, gt_iff_lt, beq_eq_false_iff_ne, Nat.zero_add]; omega)) (Rl.t (by first | omega | (simp only [decide_eq_true_eq, decide_eq_false_iff_not, Int.toNat_natCast, beq_iff_eq, bne_iff_ne, ne_eq, Int.not_lt, Int.not_le, ge_iff_le, gt_iff_lt, beq_eq_false_iff_ne, Nat.zero_add]; omega)) (Rl.at (by rw [Int.toNat_natCast]; exact ea) (Rl.t (by first | omega | (simp only [decide_eq_true_eq, decide_eq_false_iff_not, Int.toNat_natCast, beq_iff_eq, bne_iff_ne, ne_eq, Int.not_lt, Int.not_le, ge_iff_le, gt_iff_lt, beq_eq_false_iff_ne, Nat.zero_add]; omega)) (Rl.at (by rw [Int.toNat_natCast]; exact eb) (Rl.t (by rw [bne_iff_ne]; intro e; exact hok (by rw [ea, eb, e])) (Rl.pure _))))))) a.length 0 (by omega) (by omega)
 refine Rn.bind b1.diag ?_
 rcases b2 with ⟨b2, rfl⟩ | ⟨b2, x, rfl, rfl⟩
 ·rw [decide_eq_true (List.ext_getElem? fun j => by
   rcases Nat.lt_or_ge j a.length with h | h
   ·exact b2 j (Nat.zero_le _) h
   ·rw [List.getElem?_eq_none h, List.getElem?_eq_none (by omega)])]
  exact Rn.pure _
 ·rw [decide_eq_false (fun e => b2 fun j _ _ => by rw [e])]
  exact Rn.pure _
def qcP (c mode : Int) : Int := if c ≠ 0 then c else if mode = 1 ∨ mode = 2 then 0 else 110
theorem qmU {c mode : Int} (h : c ≠ 0) : qcP c mode = c := if_pos h
theorem qjE {c mode : Int} (h : c = 0) (m : mode = 1 ∨ mode = 2) : qcP c mode = 0 := by unfold qcP; rw [if_neg (by omega), if_pos m]
theorem qk1 {c mode : Int} (h : c = 0) (m : ¬ (mode = 1 ∨ mode = 2)) : qcP c mode = 110 := by unfold qcP; rw [if_neg (by omega), if_neg m]
theorem qig {c mode : Int} (h : qcP c mode = 0) : c = 0 ∧ (mode = 1 ∨ mode = 2) := by
 by_cases hc : c = 0
 ·by_cases m : mode = 1 ∨ mode = 2
  ·exact ⟨hc, m⟩
  ·rw [qk1 hc m] at h; omega
 ·rw [qmU hc] at h; exact absurd h hc
def qad (f0 : List ByteArray) (f1 : List Dv) (c mode : Int) : List Int := if qcP c mode = 0 then flo (flR (if mode = 2 then qeY else bOp) f1) f0.length else []
def qcm (f1 : List Dv) (c mode : Int) : List Int := if qcP c mode = 0 then lps mode f1 0 id else []
section
variable (f0 : List ByteArray) (f1 : List Dv) (f2 f3 f4 c : Int) (hc : Rn (fun k => qek k f0 f1 f2 f3 f4) c) (hok : Chk f0 f1 c)
include hc
theorem qmV (mode : Int) : Rn (fun k => qd6 k f0 f1 f2 f3 f4 mode) (qcP c mode) := by
 refine Rn.up (f := fun k => qd6 k f0 f1 f2 f3 f4 mode) ?_
 show Rn (fun k => qf6 k f0 f1 f2 f3 f4 mode) _
 unfold qf6
 refine Rn.bind hc ?_
 by_cases h : c = 0
 ·refine Rn.f (by simp [h]) ?_
  by_cases m1 : mode = 1
  ·rw [qjE h (.inl m1)]
   exact Rn.f (by simp [m1]) (Rn.pure _)
  ·by_cases m2 : mode = 2
   ·rw [qjE h (.inr m2)]
    exact Rn.t (by simp [m1]) (Rn.f (by simp [m2]) (Rn.pure _))
   ·rw [qk1 h (by omega)]
    exact Rn.t (by simp [m1]) (Rn.t (by simp [m2]) (Rn.pure _))
 ·rw [qmU h]
  exact Rn.t (by simp [h]) (Rn.pure _)
include hok
theorem qkl (mode : Int) : Rn (fun k => qax k f0 f1 f2 f3 f4 mode) ((qad f0 f1 c mode).length, qcP c mode, qad f0 f1 c mode) := by
 by_cases h : qcP c mode = 0
 ·have hm := qig h
  obtain ⟨l, h1, h2⟩ := qqK f0 f1 f2 f3 f4 c hc hok mode hm.2
  rw [if_pos hm.1] at h2
  have e : qad f0 f1 c mode = l := by unfold qad; rw [if_pos h, h2]
  rw [e, h]
  rw [hm.1] at h1
  exact h1
 ·have e : qad f0 f1 c mode = [] := if_neg h
  rw [e]
  refine Rn.up (f := fun k => qax k f0 f1 f2 f3 f4 mode) ?_
  show Rn (fun k => qeK k f0 f1 f2 f3 f4 mode) _
  unfold qeK
  exact Rn.bind (qmV f0 f1 f2 f3 f4 c hc mode) (Rn.t (by simp [h]) (Rn.pure _))
theorem qk2 (mode : Int) : Rn (fun k => qak k f0 f1 f2 f3 f4 mode) ((qcm f1 c mode).length, qcP c mode, qcm f1 c mode) := by
 by_cases h : qcP c mode = 0
 ·have hm := qig h
  obtain ⟨l, h1, h2⟩ := qr9 f0 f1 f2 f3 f4 c hc hok mode hm.2
  rw [if_pos hm.1] at h2
  have e : qcm f1 c mode = l := by unfold qcm; rw [if_pos h, h2]
  rw [e, h]
  rw [hm.1] at h1
  exact h1
 ·have e : qcm f1 c mode = [] := if_neg h
  rw [e]
  refine Rn.up (f := fun k => qak k f0 f1 f2 f3 f4 mode) ?_
  show Rn (fun k => qfo k f0 f1 f2 f3 f4 mode) _
  unfold qfo
  exact Rn.bind (qmV f0 f1 f2 f3 f4 c hc mode) (Rn.t (by simp [h]) (Rn.pure _))
end
theorem qse {x0 x2 y0 y2 : Bool} {x1 x3 y1 y3 : List Int} {x y : Rat} (hx : FrU x0 x1 x2 x3 x) (hy : FrU y0 y1 y2 y3 y) (l1 : x1.length ≤ 10000) (l3 : x3.length ≤ 10000) (m1 : y1.length ≤ 10000) (m3 : y3.length ≤ 10000) :
  Rn (fun k => qdk k x0 x1 x2 x3 y0 y1 y2 y3) (qju x y) := by
 obtain ⟨s1, n1, a1, a2, a3⟩ := qgj x0 y2 x1 y3 hx.1 hy.2 (by omega) (by omega)
 obtain ⟨s2, n2, b1, b2, b3⟩ := qgj y0 x2 y1 x3 hy.1 hx.2 (by omega) (by omega)
 exact Rn.up (f := fun k => qdk k x0 x1 x2 x3 y0 y1 y2 y3) (Rn.bind a1 (Rn.bind b1 (Rn.bind (qtQ s1 s2 n1 n2 a2 b2 (by omega) (by omega)) (Rn.pure _))))
section
variable (m0 : ByteArray) (m1 : Int) (m2 m3 : List (Int × Int)) (h0 : m0.size ≤ 1000000000000000000) (h2 : m2.length ≤ 1000000000000000000) (h3 : m3.length ≤ 1000000000000000000)
include h0 h2 h3
theorem qsf : ∃ o, Rl (fun k n => qQ k n 0 m0 m1 m2 m3) o ∧
  (qgk m2 ∧ o = .inr (m0, m1, m2, m3) ∨ ¬ qgk m2 ∧ ∃ a : Bool × ByteArray × Int × List (Int × Int) × List (Int × Int), a.1 = false ∧ o = .inl a) := by
 refine qds m2.length 0 (fun k n i => qQ k n i m0 m1 m2 m3) (m0, m1, m2, m3) (fun a => a.1 = false) (fun j => okN (m2.getD j (0, 0)).1 (m2.getD j (0, 0)).2 = true) ?_ ?_ ?_ m2.length 0 (by omega) (by omega)
 ·refine Rl.up (f := fun k n => qQ k n m2.length m0 m1 m2 m3) (Rl.of 0 fun k n _ => ?_)
  show qaV k (qQ k n) _ _ _ _ _ = _
  unfold qaV
  exact if_neg (by simp)
 ·intro i hs hi hok o ho
  refine Rl.up (f := fun k n => qQ k n i m0 m1 m2 m3) ?_
  show Rl (fun k n => qaV k (qQ k n) _ _ _ _ _) _
  unfold qaV
  refine Rl.t (decide_eq_true (by omega)) (Rl.t (by omega) (Rl.at (getD_some (0, 0) (by omega)) (Rl.bind (qc8 _ _) (Rl.f (by rw [Int.toNat_natCast, hok]; decide) ?_))))
  rw [qf (by omega)]
  exact ho
 ·intro i hs hi hok
  refine ⟨(false, m0, m1, m2, m3), rfl, Rl.up (f := fun k n => qQ k n i m0 m1 m2 m3) ?_⟩
  show Rl (fun k n => qaV k (qQ k n) _ _ _ _ _) _
  unfold qaV
  exact Rl.t (decide_eq_true (by omega)) (Rl.t (by omega) (Rl.at (getD_some (0, 0) (by rw [Int.toNat_natCast]; omega)) (Rl.bind (qc8 _ _) (Rl.t (by rw [Int.toNat_natCast, Bool.eq_false_iff.2 hok]; decide) (Rl.pure _)))))
theorem qsg : ∃ o, Rl (fun k n => qR k n 0 m0 m1 m2 m3) o ∧
  ((∀ j, 0 ≤ j → j < m3.length → okN (m3.getD j (0, 0)).1 (m3.getD j (0, 0)).2 = true ∧ (m1 = 100 → 1 ≤ j → qdU m3 (j - 1) < qdU m3 j)) ∧ o = .inr (m0, m1, m2, m3) ∨
   (¬ ∀ j, 0 ≤ j → j < m3.length → okN (m3.getD j (0, 0)).1 (m3.getD j (0, 0)).2 = true ∧ (m1 = 100 → 1 ≤ j → qdU m3 (j - 1) < qdU m3 j)) ∧ ∃ a : Bool × ByteArray × Int × List (Int × Int) × List (Int × Int), a.1 = false ∧ o = .inl a) := by
 have hh : ∀ i, 1 ≤ i → i < m3.length → okN (m3.getD (i - 1) (0, 0)).1 (m3.getD (i - 1) (0, 0)).2 = true → okN (m3.getD i (0, 0)).1 (m3.getD i (0, 0)).2 = true →
   ∃ s p t r s' p' t' r', Rn (fun k => qb6 k (m3.getD (i - 1) (0, 0)).1 (m3.getD (i - 1) (0, 0)).2) (s, p, t, r) ∧ Rn (fun k => qb6 k (m3.getD i (0, 0)).1 (m3.getD i (0, 0)).2) (s', p', t', r') ∧
    Rn (fun k => qdk k s p t r s' p' t' r') (qju (qdU m3 (i - 1)) (qdU m3 i)) := by
  intro i i1 i2 g1 g2
  obtain ⟨s, p, t, r, a1, a2, a3, a4⟩ := qnR g1
  obtain ⟨s', p', t', r', b1, b2, b3, b4⟩ := qnR g2
  exact ⟨s, p, t, r, s', p', t', r', a1, b1, qse a2 b2 (by omega) (by omega) (by omega) (by omega)⟩
 refine qyN m3.length 0 (fun k n i => qR k n i m0 m1 m2 m3) (m0, m1, m2, m3) (fun a => a.1 = false) (fun j => okN (m3.getD j (0, 0)).1 (m3.getD j (0, 0)).2 = true ∧ (m1 = 100 → 1 ≤ j → qdU m3 (j - 1) < qdU m3 j)) ?_ ?_ ?_ m3.length 0 (by omega) (by omega) (fun j _ h => absurd h (by omega))
 ·refine Rl.up (f := fun k n => qR k n m3.length m0 m1 m2 m3) (Rl.of 0 fun k n _ => ?_)
  show qaW k (qR k n) _ _ _ _ _ = _
  unfold qaW
  exact if_neg (by simp)
 ·intro i hs hi hp hok o ho
  refine Rl.up (f := fun k n => qR k n i m0 m1 m2 m3) ?_
  show Rl (fun k n => qaW k (qR k n) _ _ _ _ _) _
  unfold qaW
  have hg := getD_some (0, 0) hi
  refine Rl.t (decide_eq_true (by omega)) (Rl.t (by omega) ?_)
  rw [Int.toNat_natCast]
  refine Rl.at hg (Rl.bind (qc8 _ _) (Rl.f (by rw [hok.1]; decide) ?_))
  have e2 : (IntKind.i64.wrap ((i : Int) + 1)) = (i : Int) + 1 := qf (by omega)
  rw [e2]
  by_cases k1 : m1 = 100
  ·refine Rl.t (by rw [beq_iff_eq]; exact k1) ?_
   by_cases k2 : 1 ≤ i
   ·have e1 : (IntKind.i64.wrap ((i : Int) - 1)) = ((i - 1 : Nat) : Int) := by rw [qf (by omega)]; omega
    rw [e1, Int.toNat_natCast]
    obtain ⟨s, p, t, r, s', p', t', r', c1, c2, c3⟩ := hh i k2 hi (hp (i - 1) (by omega) (by omega)).1 hok.1
    exact Rl.t (decide_eq_true (by omega)) (Rl.t (by omega) (Rl.at (getD_some (0, 0) (by omega)) (Rl.bind c1 (Rl.t (by omega) (Rl.at hg (Rl.bind c2 (Rl.bind c3 (Rl.f (by rw [decide_eq_true_eq, qiZ]; exact fun h => h (hok.2 k1 k2)) ho))))))))
   ·exact Rl.f (by rw [decide_eq_true_eq]; omega) ho
  ·exact Rl.f (by rw [beq_iff_eq]; exact k1) ho
 ·intro i hs hi hp hok
  refine ⟨(false, m0, m1, m2, m3), rfl, Rl.up (f := fun k n => qR k n i m0 m1 m2 m3) ?_⟩
  show Rl (fun k n => qaW k (qR k n) _ _ _ _ _) _
  unfold qaW
  have hg := getD_some (0, 0) hi
  refine Rl.t (decide_eq_true (by omega)) (Rl.t (by omega) ?_)
  rw [Int.toNat_natCast]
  refine Rl.at hg (Rl.bind (qc8 _ _) ?_)
  by_cases k0 : okN (m3.getD i (0, 0)).1 (m3.getD i (0, 0)).2 = true
  rotate_left
  ·exact Rl.t (by rw [Bool.eq_false_iff.2 k0]; decide) (Rl.pure _)
  refine Rl.f (by rw [k0]; decide) ?_
  have k1 : m1 = 100 := Classical.byContradiction fun k1 => hok ⟨k0, fun h => absurd h k1⟩
  have k2 : 1 ≤ i := Classical.byContradiction fun k2 => hok ⟨k0, fun _ h => absurd h k2⟩
  have k3 : ¬ qdU m3 (i - 1) < qdU m3 i := fun h => hok ⟨k0, fun _ _ => h⟩
  refine Rl.t (by rw [beq_iff_eq]; exact k1) ?_
  have e1 : (IntKind.i64.wrap ((i : Int) - 1)) = ((i - 1 : Nat) : Int) := by rw [qf (by omega)]; omega
  rw [e1, Int.toNat_natCast]
  obtain ⟨s, p, t, r, s', p', t', r', c1, c2, c3⟩ := hh i k2 hi (hp (i - 1) (by omega) (by omega)).1 k0
  exact Rl.t (decide_eq_true (by omega)) (Rl.t (by omega) (Rl.at (getD_some (0, 0) (by omega)) (Rl.bind c1 (Rl.t (by omega) (Rl.at hg (Rl.bind c2 (Rl.bind c3 (Rl.t (by rw [decide_eq_true_eq, qiZ]; exact k3) (Rl.pure _)))))))))
theorem qnl : Rn (fun k => qg k m0 m1 m2 m3) (okM m0 m1 m2 m3) := by
 refine Rn.up (f := fun k => qg k m0 m1 m2 m3) ?_
 show Rn (fun k => qe9 k m0 m1 m2 m3) _
 unfold qe9
 refine Rn.bind (qjz m0 h0) ?_
 by_cases hn : qdB m0 = true
 rotate_left
 ·refine Rn.t (by simp [hn]) (Rn.const (congrArg some (qb9 (by simp [hn]))))
 refine Rn.f (by simp [hn]) ?_
 obtain ⟨o, a1, a2⟩ := qsf m0 m1 m2 m3 h0 h2 h3
 refine Rn.bind a1.diag ?_
 rcases a2 with ⟨g1, rfl⟩ | ⟨a2, ⟨q1, q2, q3, q4, q5⟩, e, rfl⟩
 rotate_left
 ·exact Rn.const (congrArg some (qb9 (by simp only at e; subst e; simp only [Bool.false_eq_true, false_iff]; exact fun h => a2 h.2.gs)))
 obtain ⟨o, b1, b2⟩ := qsg m0 m1 m2 m3 h0 h2 h3
 refine Rn.bind b1.diag ?_
 rcases b2 with ⟨g2, rfl⟩ | ⟨a2, ⟨q1, q2, q3, q4, q5⟩, e, rfl⟩
 rotate_left
 ·refine Rn.const (congrArg some (qb9 ?_))
  simp only at e
  subst e
  simp only [Bool.false_eq_true, false_iff]
  rintro ⟨_, h⟩
  refine a2 fun j _ j2 => ⟨h.vs j (by omega) j2, fun k1 j1 => ?_⟩
  rcases h.kind with k | k
  ·omega
  ·exact k.2.2.2.2 j j1 j2
 have g3 : qgk m3 := fun j j1 j2 => (g2 j j1 j2).1
 show Rn (fun k => if (m1 == 115) = true then _ else if (m1 == 100) = true then _ else _) _
 by_cases k1 : m1 = 115
 ·refine Rn.t (by rw [beq_iff_eq]; exact k1) ?_
  by_cases c1 : m2.length = 2
  ·refine Rn.t (by rw [beq_iff_eq]; exact congrArg _ c1) (Rn.const (congrArg some (qb9 ?_)))
   rw [beq_iff_eq]
   constructor
   ·intro h; have h : (m3.length : Int) = 1 := h; exact ⟨hn, g1, g3, .inl ⟨k1, c1, by omega⟩⟩
   ·rintro ⟨_, h⟩; show (m3.length : Int) = 1; have := h.kind; omega
  ·refine Rn.f (by rw [beq_iff_eq]; show ¬ (m2.length : Int) = 2; omega) (Rn.const (congrArg some (qb9 ?_)))
   simp only [Bool.false_eq_true, false_iff]
   rintro ⟨_, h⟩; have := h.kind; omega
 refine Rn.f (by rw [beq_iff_eq]; exact k1) ?_
 by_cases k2 : m1 = 100
 rotate_left
 ·refine Rn.f (by rw [beq_iff_eq]; exact k2) (Rn.const (congrArg some (qb9 ?_)))
  simp only [Bool.false_eq_true, false_iff]
  rintro ⟨_, h⟩; have := h.kind; omega
 refine Rn.t (by rw [beq_iff_eq]; exact k2) ?_
 by_cases c1 : m2.length < 1
 ·refine Rn.f (by rw [decide_eq_true_eq]; show ¬ (m2.length : Int) ≥ 1; omega) (Rn.const (congrArg some (qb9 ?_)))
  simp only [Bool.false_eq_true, false_iff]
  rintro ⟨_, h⟩; have := h.kind; omega
 refine Rn.t (decide_eq_true (show (m2.length : Int) ≥ 1 by omega)) ?_
 by_cases c2 : m2.length > 4
 ·refine Rn.f (by rw [decide_eq_true_eq]; show ¬ (m2.length : Int) ≤ 4; omega) (Rn.const (congrArg some (qb9 ?_)))
  simp only [Bool.false_eq_true, false_iff]
  rintro ⟨_, h⟩; have := h.kind; omega
 refine Rn.t (decide_eq_true (show (m2.length : Int) ≤ 4 by omega)) (Rn.const (congrArg some (qb9 ?_)))
 have e1 : (IntKind.i64.wrap ((m3.length : Int) + 1)) = (m3.length : Int) + 1 := qf (by omega)
 rw [beq_iff_eq]
 show IntKind.i64.wrap ((m3.length : Int) + 1) = (m2.length : Int) ↔ _
 rw [e1]
 constructor
 ·intro h; exact ⟨hn, g1, g3, .inr ⟨k2, by omega, by omega, by omega, fun j j1 j2 => (g2 j (by omega) j2).2 k2 j1⟩⟩
 ·rintro ⟨_, h⟩; have := h.kind; omega
omit h0 h2 h3 in
omit h0 h2 h3 in
omit h0 h2 h3 in
end
section
variable {m0 : ByteArray} {m1 : Int} {m2 m3 : List (Int × Int)} (hv : qgk m3)
include hv
end
theorem qjF (a b : List (Int × Int)) (ha : a.length ≤ 1000000000000000000) : Rn (fun k => qcz k a b) (decide (a = b)) := by
 refine Rn.up (f := fun k => qcz k a b) ?_
 show Rn (fun k => qfE k a b) _
 unfold qfE
 by_cases hl : a.length = b.length
 rotate_left
 ·refine Rn.t (by rw [bne_iff_ne]; omega) (Rn.const (congrArg some (decide_eq_false fun e => hl (by rw [e])).symm))
 refine Rn.f (by rw [bne_iff_ne]; omega) ?_
 obtain ⟨o, b1, b2⟩ := qds a.length 0 (fun k q i => qau k q a b i) () (fun x => x = false) (fun j => a[j]? = b[j]?) (by
   refine Rl.up (f := fun k q => qau k q a b a.length) ?_
   show Rl (fun k q => qbk k (qau k q) _ _ _) _
   unfold qbk
   exact Rl.f (by simp) (Rl.pure _)) (by
   intro i hs hi hok o ho
   refine Rl.up (f := fun k q => qau k q a b i) ?_
   show Rl (fun k q => qbk k (qau k q) _ _ _) _
   unfold qbk
   rw [qf (x := (i : Int) + 1) (by omega)]
   have ea := List.getElem?_eq_getElem hi
   have eb := hok
   rw [ea] at eb
   exact Rl.t (by first | omega | (simp only [decide_eq_true_eq, decide_eq_false_iff_not, Int.toNat_natCast, beq_iff_eq, bne_iff_ne, ne_eq, Int.not_lt, Int.not_le, ge_iff_le, gt_iff_lt, beq_eq_false_iff_ne, Nat.zero_add]; omega)) (Rl.t (by first | omega | (simp only [decide_eq_true_eq, decide_eq_false_iff_not, Int.toNat_natCast, beq_iff_eq, bne_iff_ne, ne_eq, Int.not_lt, Int.not_le, ge_iff_le, gt_iff_lt, beq_eq_false_iff_ne, Nat.zero_add]; omega)) (Rl.at (by rw [Int.toNat_natCast]; exact ea) (Rl.t (by first | omega | (simp only [decide_eq_true_eq, decide_eq_false_iff_not, Int.toNat_natCast, beq_iff_eq, bne_iff_ne, ne_eq, Int.not_lt, Int.not_le, ge_iff_le, gt_iff_lt, beq_eq_false_iff_ne, Nat.zero_add]; omega)) (Rl.at (by rw [Int.toNat_natCast]; exact eb.symm) (Rl.t (by simp) (Rl.t (by simp) ho))))))) (by
   intro i hs hi hok
   refine ⟨false, rfl, Rl.up (f := fun k q => qau k q a b i) ?_⟩
   show Rl (fun k q => qbk k (qau k q) _ _ _) _
   unfold qbk
   have ea := List.getElem?_eq_getElem hi
   have eb := List.getElem?_eq_getElem (show i < b.length by omega)
   refine Rl.t (by first | omega | (simp only [decide_eq_true_eq, decide_eq_false_iff_not, Int.toNat_natCast, beq_iff_eq, bne_iff_ne, ne_eq, Int.not_lt, Int.not_le, ge_iff_le, gt_iff_lt, beq_eq_false_iff_ne, Nat.zero_add]; omega)) (Rl.t (by first | omega | (simp only [decide_eq_true_eq, decide_eq_false_iff_not, Int.toNat_natCast, beq_iff_eq, bne_iff_ne, ne_eq, Int.not_lt, Int.not_le, ge_iff_le, gt_iff_lt, beq_eq_false_iff_ne, Nat.zero_add]; omega)) (Rl.at (by rw [Int.toNat_natCast]; exact ea) (Rl.t (by first | omega | (simp only [decide_eq_true_eq, decide_eq_false_iff_not, Int.toNat_natCast, beq_iff_eq, bne_iff_ne, ne_eq, Int.not_lt, Int.not_le, ge_iff_le, gt_iff_lt, beq_eq_false_iff_ne, Nat.zero_add]; omega)) (Rl.at (by rw [Int.toNat_natCast]; exact eb) ?_))))
   by_cases c1 : (a[i]).1 = (b[i]'(by omega)).1
   ·refine Rl.t (by rw [beq_iff_eq]; exact c1) (Rl.f (by rw [beq_iff_eq]; intro c2; exact hok (by rw [ea, eb]; exact congrArg some (Prod.ext c1 c2))) (Rl.pure _))
   ·exact Rl.f (by rw [beq_iff_eq]; exact c1) (Rl.pure _)) a.length 0 (by omega) (by omega)
 refine Rn.bind b1.diag ?_
 rcases b2 with ⟨b2, rfl⟩ | ⟨b2, x, rfl, rfl⟩
 ·rw [decide_eq_true (List.ext_getElem? fun j => by
   rcases Nat.lt_or_ge j a.length with h | h
   ·exact b2 j (Nat.zero_le _) h
   ·rw [List.getElem?_eq_none h, List.getElem?_eq_none (by omega)])]
  exact Rn.pure _
 ·rw [decide_eq_false (fun e => b2 fun j _ _ => by rw [e])]
  exact Rn.pure _
theorem qsh (a0 : Int) (a1 : List (Int × Int)) (a2 : List Int) (c0 : Int) (c1 : List (Int × Int)) (c2 : List Int) (h1 : a1.length ≤ 1000000000000000000) (h2 : a2.length ≤ 1000000000000000000) :
  Rn (fun k => qu k a0 a1 a2 c0 c1 c2) (decide (a0 = c0 ∧ a1 = c1 ∧ a2 = c2)) := by
 refine Rn.up (f := fun k => qu k a0 a1 a2 c0 c1 c2) ?_
 show Rn (fun k => qfF k a0 a1 a2 c0 c1 c2) _
 unfold qfF
 by_cases h0 : a0 = c0
 rotate_left
 ·exact Rn.f (by simp [h0]) (Rn.const (congrArg some (decide_eq_false (fun h => h0 h.1)).symm))
 refine Rn.t (by simp [h0]) ?_
 by_cases hl : a2.length = c2.length
 rotate_left
 ·exact Rn.t (by rw [bne_iff_ne]; omega) (Rn.const (congrArg some (decide_eq_false (fun h => hl (by rw [h.2.2]))).symm))
 refine Rn.f (by rw [bne_iff_ne]; omega) ?_
 obtain ⟨o, b1, b2⟩ := qds a2.length 0 (fun k q i => qav k q i a0 a1 a2 c0 c1 c2) (a0, a1, a2, c0, c1, c2) (fun x => x.1 = false) (fun j => a2[j]? = c2[j]?) (by
   refine Rl.up (f := fun k q => qav k q a2.length a0 a1 a2 c0 c1 c2) ?_
   show Rl (fun k q => qbl k (qav k q) _ _ _ _ _ _ _) _
   unfold qbl
   exact Rl.f (by simp) (Rl.pure _)) (by
   intro i hs hi hok o ho
   refine Rl.up (f := fun k q => qav k q i a0 a1 a2 c0 c1 c2) ?_
   show Rl (fun k q => qbl k (qav k q) _ _ _ _ _ _ _) _
   unfold qbl
   rw [qf (x := (i : Int) + 1) (by omega)]
   have ea := List.getElem?_eq_getElem hi
   have eb := hok
   rw [ea] at eb
   exact Rl.t (by first | omega | (simp only [decide_eq_true_eq, decide_eq_false_iff_not, Int.toNat_natCast, beq_iff_eq, bne_iff_ne, ne_eq, Int.not_lt, Int.not_le, ge_iff_le, gt_iff_lt, beq_eq_false_iff_ne, Nat.zero_add]; omega)) (Rl.t (by first | omega | (simp only [decide_eq_true_eq, decide_eq_false_iff_not, Int.toNat_natCast, beq_iff_eq, bne_iff_ne, ne_eq, Int.not_lt, Int.not_le, ge_iff_le, gt_iff_lt, beq_eq_false_iff_ne, Nat.zero_add]; omega)) (Rl.at (by rw [Int.toNat_natCast]; exact ea) (Rl.t (by first | omega | (simp only [decide_eq_true_eq, decide_eq_false_iff_not, Int.toNat_natCast, beq_iff_eq, bne_iff_ne, ne_eq, Int.not_lt, Int.not_le, ge_iff_le, gt_iff_lt, beq_eq_false_iff_ne, Nat.zero_add]; omega)) (Rl.at (by rw [Int.toNat_natCast]; exact eb.symm) (Rl.f (by simp) ho)))))) (by
   intro i hs hi hok
   refine ⟨(false, a0, a1, a2, c0, c1, c2), rfl, Rl.up (f := fun k q => qav k q i a0 a1 a2 c0 c1 c2) ?_⟩
   show Rl (fun k q => qbl k (qav k q) _ _ _ _ _ _ _) _
   unfold qbl
   have ea := List.getElem?_eq_getElem hi
   have eb := List.getElem?_eq_getElem (show i < c2.length by omega)
   exact Rl.t (by first | omega | (simp only [decide_eq_true_eq, decide_eq_false_iff_not, Int.toNat_natCast, beq_iff_eq, bne_iff_ne, ne_eq, Int.not_lt, Int.not_le, ge_iff_le, gt_iff_lt, beq_eq_false_iff_ne, Nat.zero_add]; omega)) (Rl.t (by first | omega | (simp only [decide_eq_true_eq, decide_eq_false_iff_not, Int.toNat_natCast, beq_iff_eq, bne_iff_ne, ne_eq, Int.not_lt, Int.not_le, ge_iff_le, gt_iff_lt, beq_eq_false_iff_ne, Nat.zero_add]; omega)) (Rl.at (by rw [Int.toNat_natCast]; exact ea) (Rl.t (by first | omega | (simp only [decide_eq_true_eq, decide_eq_false_iff_not, Int.toNat_natCast, beq_iff_eq, bne_iff_ne, ne_eq, Int.not_lt, Int.not_le, ge_iff_le, gt_iff_lt, beq_eq_false_iff_ne, Nat.zero_add]; omega)) (Rl.at (by rw [Int.toNat_natCast]; exact eb) (Rl.t (by rw [bne_iff_ne]; intro e; exact hok (by rw [ea, eb, e])) (Rl.pure _))))))) a2.length 0 (by omega) (by omega)
 refine Rn.bind b1.diag ?_
 rcases b2 with ⟨b2, rfl⟩ | ⟨b2, x, hx, rfl⟩
 ·have e2 : a2 = c2 := List.ext_getElem? fun j => by
   rcases Nat.lt_or_ge j a2.length with h | h
   ·exact b2 j (Nat.zero_le _) h
   ·rw [List.getElem?_eq_none h, List.getElem?_eq_none (by omega)]
  have e : decide (a0 = c0 ∧ a1 = c1 ∧ a2 = c2) = decide (a1 = c1) := decide_eq_decide.2 ⟨fun h => h.2.1, fun h => ⟨h0, h, e2⟩⟩
  rw [e]
  exact Rn.bind (qjF a1 c1 h1) (Rn.pure _)
 ·rw [decide_eq_false (fun e => b2 fun j _ _ => by rw [e.2.2])]
  show Rn (fun k => some x.1) false
  rw [hx]
  exact Rn.pure _
theorem qsi (a0 : ByteArray) (a1 : Int) (a2 a3 : List (Int × Int)) (c0 : ByteArray) (c1 : Int) (c2 c3 : List (Int × Int)) (h1 : a2.length ≤ 1000000000000000000) (h2 : a3.length ≤ 1000000000000000000) :
  Rn (fun k => qi k a0 a1 a2 a3 c0 c1 c2 c3) (decide (dl a0 = dl c0 ∧ a1 = c1 ∧ a2 = c2 ∧ a3 = c3)) := by
 refine Rn.up (f := fun k => qi k a0 a1 a2 a3 c0 c1 c2 c3) ?_
 show Rn (fun k => qfG k a0 a1 a2 a3 c0 c1 c2 c3) _
 unfold qfG
 by_cases e0 : dl a0 = dl c0
 rotate_left
 ·exact Rn.f (by rw [beq_iff_eq]; exact e0) (Rn.const (congrArg some (decide_eq_false (fun h => e0 h.1)).symm))
 refine Rn.t (by rw [beq_iff_eq]; exact e0) ?_
 by_cases e1 : a1 = c1
 rotate_left
 ·exact Rn.f (by rw [beq_iff_eq]; exact e1) (Rn.const (congrArg some (decide_eq_false (fun h => e1 h.2.1)).symm))
 refine Rn.t (by rw [beq_iff_eq]; exact e1) (Rn.bind (qjF a2 c2 h1) ?_)
 by_cases e2 : a2 = c2
 rotate_left
 ·exact Rn.f (by rw [decide_eq_true_eq]; exact e2) (Rn.const (congrArg some (decide_eq_false (fun h => e2 h.2.2.1)).symm))
 refine Rn.t (decide_eq_true e2) (Rn.bind (qjF a3 c3 h2) (Rn.const (congrArg some (decide_eq_decide.2 ?_))))
 exact ⟨fun h => ⟨e0, e1, e2, h⟩, fun h => h.2.2.2⟩
theorem qsj (d6 : Int) (d7 : List (Int × Int)) (d8 : List Int) : decide (d6 = 0 ∧ d7 = [] ∧ d8 = []) = noW d6 d7 d8 := by
 unfold noW; exact decide_eq_decide.2 (by rw [List.length_eq_zero_iff, List.length_eq_zero_iff])
theorem qsk (d9 : ByteArray) (d10 : Int) (d11 d12 : List (Int × Int)) : decide (dl d9 = dl (ByteArray.mk (List.toArray [])) ∧ d10 = 0 ∧ d11 = [] ∧ d12 = []) = noM d9 d10 d11 d12 := by
 unfold noM; exact decide_eq_decide.2 (by rw [List.length_eq_zero_iff, List.length_eq_zero_iff])
section
variable (f0 : List ByteArray) (f1 : List Dv) (f2 f3 f4 : Int) (d0 : Int) (d1 : ByteArray) (d2 : List Int) (d3 d4 d5 d6 : Int) (d7 : List (Int × Int)) (d8 : List Int) (d9 : ByteArray) (d10 : Int) (d11 d12 : List (Int × Int))
variable (h1 : d1.size ≤ 1000000000000) (h2 : d2.length ≤ 1000000000000000000) (h7 : d7.length ≤ 1000000000000000000) (h8 : d8.length ≤ 1000000000000000000) (h9 : d9.size ≤ 1000000000000000000) (h11 : d11.length ≤ 1000000000000000000) (h12 : d12.length ≤ 1000000000000000000)
include h2
theorem qbB (nodes : Int) (r v s m : Bool) (hn : (d2.length : Int) = nodes) : Rn (fun k => qp k k nodes r v s m 0 f0 f1 f2 f3 f4 d0 d1 d2 d3 d4 d5 d6 d7 d8 d9 d10 d11 d12)
  (if qdV f0.length d2 = true then .inr (r, v, s, m, f0, f1, f2, f3, f4, d0, d1, d2, d3, d4, d5, d6, d7, d8, d9, d10, d11, d12) else .inl (false, f0, f1, f2, f3, f4, d0, d1, d2, d3, d4, d5, d6, d7, d8, d9, d10, d11, d12)) := by
 subst hn
 obtain ⟨o, b1, b2⟩ := qds d2.length 0 (fun k q i => qp k q d2.length r v s m i f0 f1 f2 f3 f4 d0 d1 d2 d3 d4 d5 d6 d7 d8 d9 d10 d11 d12) (r, v, s, m, f0, f1, f2, f3, f4, d0, d1, d2, d3, d4, d5, d6, d7, d8, d9, d10, d11, d12)
  (fun a => a = (false, f0, f1, f2, f3, f4, d0, d1, d2, d3, d4, d5, d6, d7, d8, d9, d10, d11, d12)) (fun j => 0 ≤ d2.getD j 0 ∧ d2.getD j 0 < f0.length) (by
   refine Rl.up (f := fun k q => qp k q d2.length r v s m d2.length f0 f1 f2 f3 f4 d0 d1 d2 d3 d4 d5 d6 d7 d8 d9 d10 d11 d12) ?_
   show Rl (fun k q => qaX k (qp k q) _ _ _ _ _ _ _ _ _ _ _ _ _ _ _ _ _ _ _ _ _ _ _ _) _
   unfold qaX
   exact Rl.f (by simp) (Rl.pure _)) (by
   intro i hs hi hok o ho
   refine Rl.up (f := fun k q => qp k q d2.length r v s m i f0 f1 f2 f3 f4 d0 d1 d2 d3 d4 d5 d6 d7 d8 d9 d10 d11 d12) ?_
   show Rl (fun k q => qaX k (qp k q) _ _ _ _ _ _ _ _ _ _ _ _ _ _ _ _ _ _ _ _ _ _ _ _) _
   unfold qaX
   rw [qf (x := (i : Int) + 1) (by omega)]
   exact Rl.t (by first | omega | (simp only [decide_eq_true_eq, decide_eq_false_iff_not, Int.toNat_natCast, beq_iff_eq, bne_iff_ne, ne_eq, Int.not_lt, Int.not_le, ge_iff_le, gt_iff_lt, beq_eq_false_iff_ne, Nat.zero_add]; omega)) (Rl.t (by first | omega | (simp only [decide_eq_true_eq, decide_eq_false_iff_not, Int.toNat_natCast, beq_iff_eq, bne_iff_ne, ne_eq, Int.not_lt, Int.not_le, ge_iff_le, gt_iff_lt, beq_eq_false_iff_ne, Nat.zero_add]; omega)) (Rl.at (by rw [Int.toNat_natCast]; exact getD_some 0 hi) (Rl.t (decide_eq_false (by omega)) (Rl.t (by first | omega | (simp only [decide_eq_true_eq, decide_eq_false_iff_not, Int.toNat_natCast, beq_iff_eq, bne_iff_ne, ne_eq, Int.not_lt, Int.not_le, ge_iff_le, gt_iff_lt, beq_eq_false_iff_ne, Nat.zero_add]; omega)) (Rl.at (by rw [Int.toNat_natCast]; exact getD_some 0 hi) (Rl.f (by rw [decide_eq_true_eq]; omega) ho))))))) (by
   intro i hs hi hok
   refine ⟨_, rfl, Rl.up (f := fun k q => qp k q d2.length r v s m i f0 f1 f2 f3 f4 d0 d1 d2 d3 d4 d5 d6 d7 d8 d9 d10 d11 d12) ?_⟩
   show Rl (fun k q => qaX k (qp k q) _ _ _ _ _ _ _ _ _ _ _ _ _ _ _ _ _ _ _ _ _ _ _ _) _
   unfold qaX
   refine Rl.t (by first | omega | (simp only [decide_eq_true_eq, decide_eq_false_iff_not, Int.toNat_natCast, beq_iff_eq, bne_iff_ne, ne_eq, Int.not_lt, Int.not_le, ge_iff_le, gt_iff_lt, beq_eq_false_iff_ne, Nat.zero_add]; omega)) (Rl.t (by first | omega | (simp only [decide_eq_true_eq, decide_eq_false_iff_not, Int.toNat_natCast, beq_iff_eq, bne_iff_ne, ne_eq, Int.not_lt, Int.not_le, ge_iff_le, gt_iff_lt, beq_eq_false_iff_ne, Nat.zero_add]; omega)) (Rl.at (by rw [Int.toNat_natCast]; exact getD_some 0 hi) ?_))
   by_cases c : d2.getD i 0 < 0
   ·exact Rl.f (by simp; exact c) (Rl.pure _)
   ·exact Rl.t (decide_eq_false c) (Rl.t (by first | omega | (simp only [decide_eq_true_eq, decide_eq_false_iff_not, Int.toNat_natCast, beq_iff_eq, bne_iff_ne, ne_eq, Int.not_lt, Int.not_le, ge_iff_le, gt_iff_lt, beq_eq_false_iff_ne, Nat.zero_add]; omega)) (Rl.at (by rw [Int.toNat_natCast]; exact getD_some 0 hi) (Rl.t (by rw [decide_eq_true_eq]; omega) (Rl.pure _))))) d2.length 0 (by omega) (by omega)
 have hall : qdV f0.length d2 = true ↔ ∀ j, 0 ≤ j → j < d2.length → 0 ≤ d2.getD j 0 ∧ d2.getD j 0 < f0.length := by
  unfold qdV
  rw [qfK]
  simp only [decide_eq_true_eq]
 rcases b2 with ⟨b2, rfl⟩ | ⟨b2, a, rfl, rfl⟩
 ·rw [if_pos (hall.2 b2)]; exact b1.diag
 ·rw [if_neg (fun h => b2 (hall.1 h))]; exact b1.diag
end
section
variable (f0 : List ByteArray) (f1 : List Dv) (f2 f3 f4 : Int) (d0 : Int) (d1 : ByteArray) (d2 : List Int) (d3 d4 d5 d6 : Int) (d7 : List (Int × Int)) (d8 : List Int) (d9 : ByteArray) (d10 : Int) (d11 d12 : List (Int × Int))
variable (h1 : d1.size ≤ 1000000000000) (h2 : d2.length ≤ 1000000000000000000) (h7 : d7.length ≤ 1000000000000000000) (h8 : d8.length ≤ 1000000000000000000) (h9 : d9.size ≤ 1000000000000000000) (h11 : d11.length ≤ 1000000000000000000) (h12 : d12.length ≤ 1000000000000000000)
include h1 h2 h7 h8 h9 h11 h12
theorem qqR : Rn (fun k => qc0 k f0 f1 f2 f3 f4 d0 d1 d2 d3 d4 d5 d6 d7 d8 d9 d10 d11 d12) (okR f0.length f1 d0 d1 d2 d3 d4 d5 d6 d7 d8 d9 d10 d11 d12) := by
 refine Rn.up (f := fun k => qc0 k f0 f1 f2 f3 f4 d0 d1 d2 d3 d4 d5 d6 d7 d8 d9 d10 d11 d12) ?_
 show Rn (fun k => qfa k f0 f1 f2 f3 f4 d0 d1 d2 d3 d4 d5 d6 d7 d8 d9 d10 d11 d12) _
 have g1 := qjB d1 (by omega)
 have g3 := qo8 d6 d7 d8 h7 h8
 have g4 := qsi d9 d10 d11 d12 (ByteArray.mk (List.toArray [])) 0 [] [] h11 h12
 rw [qsk] at g4
 have g5 := qsh d6 d7 d8 0 [] [] h7 h8
 rw [qsj] at g5
 have g6 := qnl d9 d10 d11 d12 h9 h11 h12
 have g7 := qc8 d4 d5
 unfold qfa
 by_cases k114 : d0 = 114
 ·refine Rn.t (by simp [k114]) ?_
  by_cases z4 : d4 = 0
  ·refine Rn.t (by simp [z4]) (Rn.const (congrArg some ?_))
   simp [okR, k114, z4]
  refine Rn.f (by simp [z4]) ?_
  by_cases c1 : (d2.length : Int) = 2
  rotate_left
  ·refine Rn.f (by simp [c1]) (Rn.const (congrArg some ?_))
   simp [okR, k114, qal, c1]
  refine Rn.t (by simp [c1]) (Rn.bind g1 ?_)
  have g2 := qbB f0 f1 f2 f3 f4 d0 d1 d2 d3 d4 d5 d6 d7 d8 d9 d10 d11 d12 h2 2 false true false false c1
  cases hl : qbV d1
  ·refine Rn.t (by rfl) (Rn.const (congrArg some ?_))
   simp [okR, hl]
  refine Rn.f (by decide) (Rn.bind g2 ?_)
  cases hr : qdV f0.length d2
  ·refine Rn.const (congrArg some ?_)
   simp [okR, hr]
  rw [if_pos (show true = true from rfl)]
  have hok : okR f0.length f1 d0 d1 d2 d3 d4 d5 d6 d7 d8 d9 d10 d11 d12 = (decide (d3 = 0) && okN d4 d5 && noW d6 d7 d8 && noM d9 d10 d11 d12) := by
   simp [okR, k114, qal, c1, hl, hr, z4]
  rw [hok]
  show Rn (fun k => qe k _) _
  unfold qe
  dsimp only
  refine Rn.f (fun h => by cases h) ?_
  by_cases z3 : d3 = 0
  rotate_left
  ·refine Rn.t (by simp [z3]) (Rn.const (congrArg some ?_))
   simp [z3]
  refine Rn.f (by simp [z3]) (Rn.t rfl (Rn.bind g7 ?_))
  cases hn : okN d4 d5
  ·refine Rn.f (by decide) (Rn.const (congrArg some ?_))
   simp
  refine Rn.t (by decide) (Rn.f (fun h => by cases h) (Rn.f (fun h => by cases h) (Rn.t rfl (Rn.bind g5 ?_))))
  cases hw : noW d6 d7 d8
  ·refine Rn.t (by decide) (Rn.const (congrArg some ?_))
   simp
  refine Rn.f (by decide) (Rn.f (fun h => by cases h) (Rn.bind g4 (Rn.const (congrArg some ?_))))
  simp [z3]
 refine Rn.f (by simp [k114]) ?_
 by_cases k99 : d0 = 99
 ·refine Rn.t (by simp [k99]) ?_
  by_cases z4 : d4 = 0
  ·refine Rn.t (by simp [z4]) (Rn.const (congrArg some ?_))
   simp [okR, k99, z4]
  refine Rn.f (by simp [z4]) ?_
  by_cases c1 : (d2.length : Int) = 2
  rotate_left
  ·refine Rn.f (by simp [c1]) (Rn.const (congrArg some ?_))
   simp [okR, k99, qal, c1]
  refine Rn.t (by simp [c1]) (Rn.bind g1 ?_)
  have g2 := qbB f0 f1 f2 f3 f4 d0 d1 d2 d3 d4 d5 d6 d7 d8 d9 d10 d11 d12 h2 2 false true false false c1
  cases hl : qbV d1
  ·refine Rn.t (by rfl) (Rn.const (congrArg some ?_))
   simp [okR, hl]
  refine Rn.f (by decide) (Rn.bind g2 ?_)
  cases hr : qdV f0.length d2
  ·refine Rn.const (congrArg some ?_)
   simp [okR, hr]
  rw [if_pos (show true = true from rfl)]
  have hok : okR f0.length f1 d0 d1 d2 d3 d4 d5 d6 d7 d8 d9 d10 d11 d12 = (decide (d3 = 0) && okN d4 d5 && noW d6 d7 d8 && noM d9 d10 d11 d12) := by
   simp [okR, k99, qal, c1, hl, hr, z4]
  rw [hok]
  show Rn (fun k => qe k _) _
  unfold qe
  dsimp only
  refine Rn.f (fun h => by cases h) ?_
  by_cases z3 : d3 = 0
  rotate_left
  ·refine Rn.t (by simp [z3]) (Rn.const (congrArg some ?_))
   simp [z3]
  refine Rn.f (by simp [z3]) (Rn.t rfl (Rn.bind g7 ?_))
  cases hn : okN d4 d5
  ·refine Rn.f (by decide) (Rn.const (congrArg some ?_))
   simp
  refine Rn.t (by decide) (Rn.f (fun h => by cases h) (Rn.f (fun h => by cases h) (Rn.t rfl (Rn.bind g5 ?_))))
  cases hw : noW d6 d7 d8
  ·refine Rn.t (by decide) (Rn.const (congrArg some ?_))
   simp
  refine Rn.f (by decide) (Rn.f (fun h => by cases h) (Rn.bind g4 (Rn.const (congrArg some ?_))))
  simp [z3]
 refine Rn.f (by simp [k99]) ?_
 by_cases k108 : d0 = 108
 ·refine Rn.t (by simp [k108]) ?_
  by_cases z4 : d4 = 0
  ·refine Rn.t (by simp [z4]) (Rn.const (congrArg some ?_))
   simp [okR, k108, z4]
  refine Rn.f (by simp [z4]) ?_
  by_cases c1 : (d2.length : Int) = 2
  rotate_left
  ·refine Rn.f (by simp [c1]) (Rn.const (congrArg some ?_))
   simp [okR, k108, qal, c1]
  refine Rn.t (by simp [c1]) (Rn.bind g1 ?_)
  have g2 := qbB f0 f1 f2 f3 f4 d0 d1 d2 d3 d4 d5 d6 d7 d8 d9 d10 d11 d12 h2 2 false true false false c1
  cases hl : qbV d1
  ·refine Rn.t (by rfl) (Rn.const (congrArg some ?_))
   simp [okR, hl]
  refine Rn.f (by decide) (Rn.bind g2 ?_)
  cases hr : qdV f0.length d2
  ·refine Rn.const (congrArg some ?_)
   simp [okR, hr]
  rw [if_pos (show true = true from rfl)]
  have hok : okR f0.length f1 d0 d1 d2 d3 d4 d5 d6 d7 d8 d9 d10 d11 d12 = (decide (d3 = 0) && okN d4 d5 && noW d6 d7 d8 && noM d9 d10 d11 d12) := by
   simp [okR, k108, qal, c1, hl, hr, z4]
  rw [hok]
  show Rn (fun k => qe k _) _
  unfold qe
  dsimp only
  refine Rn.f (fun h => by cases h) ?_
  by_cases z3 : d3 = 0
  rotate_left
  ·refine Rn.t (by simp [z3]) (Rn.const (congrArg some ?_))
   simp [z3]
  refine Rn.f (by simp [z3]) (Rn.t rfl (Rn.bind g7 ?_))
  cases hn : okN d4 d5
  ·refine Rn.f (by decide) (Rn.const (congrArg some ?_))
   simp
  refine Rn.t (by decide) (Rn.f (fun h => by cases h) (Rn.f (fun h => by cases h) (Rn.t rfl (Rn.bind g5 ?_))))
  cases hw : noW d6 d7 d8
  ·refine Rn.t (by decide) (Rn.const (congrArg some ?_))
   simp
  refine Rn.f (by decide) (Rn.f (fun h => by cases h) (Rn.bind g4 (Rn.const (congrArg some ?_))))
  simp [z3]
 refine Rn.f (by simp [k108]) ?_
 by_cases k118 : d0 = 118
 ·refine Rn.t (by simp [k118]) ?_
  by_cases c1 : (d2.length : Int) = 2
  rotate_left
  ·refine Rn.f (by simp [c1]) (Rn.const (congrArg some ?_))
   simp [okR, k118, qal, c1]
  refine Rn.t (by simp [c1]) (Rn.bind g1 ?_)
  have g2 := qbB f0 f1 f2 f3 f4 d0 d1 d2 d3 d4 d5 d6 d7 d8 d9 d10 d11 d12 h2 2 false false true false c1
  cases hl : qbV d1
  ·refine Rn.t (by rfl) (Rn.const (congrArg some ?_))
   simp [okR, hl]
  refine Rn.f (by decide) (Rn.bind g2 ?_)
  cases hr : qdV f0.length d2
  ·refine Rn.const (congrArg some ?_)
   simp [okR, hr]
  rw [if_pos (show true = true from rfl)]
  have hok : okR f0.length f1 d0 d1 d2 d3 d4 d5 d6 d7 d8 d9 d10 d11 d12 = (okW d6 d7 d8 && decide (d4 = 0) && decide (d5 = 0) && noM d9 d10 d11 d12 && decide (d3 = 0)) := by
   simp [okR, k118, qal, c1, hl, hr]
  rw [hok]
  show Rn (fun k => qe k _) _
  unfold qe
  dsimp only
  refine Rn.f (fun h => by cases h) ?_
  by_cases z3 : d3 = 0
  rotate_left
  ·refine Rn.t (by simp [z3]) (Rn.const (congrArg some ?_))
   simp [z3]
  refine Rn.f (by simp [z3]) (Rn.f (fun h => by cases h) (Rn.t rfl ?_))
  by_cases z4 : d4 = 0
  rotate_left
  ·refine Rn.f (by simp [z4]) (Rn.const (congrArg some ?_))
   simp [z4]
  refine Rn.t (by simp [z4]) ?_
  by_cases z5 : d5 = 0
  rotate_left
  ·refine Rn.f (by simp [z5]) (Rn.const (congrArg some ?_))
   simp [z5]
  refine Rn.t (by simp [z5]) (Rn.t rfl (Rn.bind g3 ?_))
  cases hw : okW d6 d7 d8
  ·refine Rn.f (by decide) (Rn.const (congrArg some ?_))
   simp
  refine Rn.t (by decide) (Rn.f (fun h => by cases h) (Rn.f (fun h => by cases h) (Rn.bind g4 (Rn.const (congrArg some ?_)))))
  simp [z3, z4, z5]
 refine Rn.f (by simp [k118]) ?_
 by_cases k105 : d0 = 105
 ·refine Rn.t (by simp [k105]) ?_
  by_cases c1 : (d2.length : Int) = 2
  rotate_left
  ·refine Rn.f (by simp [c1]) (Rn.const (congrArg some ?_))
   simp [okR, k105, qal, c1]
  refine Rn.t (by simp [c1]) (Rn.bind g1 ?_)
  have g2 := qbB f0 f1 f2 f3 f4 d0 d1 d2 d3 d4 d5 d6 d7 d8 d9 d10 d11 d12 h2 2 false false true false c1
  cases hl : qbV d1
  ·refine Rn.t (by rfl) (Rn.const (congrArg some ?_))
   simp [okR, hl]
  refine Rn.f (by decide) (Rn.bind g2 ?_)
  cases hr : qdV f0.length d2
  ·refine Rn.const (congrArg some ?_)
   simp [okR, hr]
  rw [if_pos (show true = true from rfl)]
  have hok : okR f0.length f1 d0 d1 d2 d3 d4 d5 d6 d7 d8 d9 d10 d11 d12 = (okW d6 d7 d8 && decide (d4 = 0) && decide (d5 = 0) && noM d9 d10 d11 d12 && decide (d3 = 0)) := by
   simp [okR, k105, qal, c1, hl, hr]
  rw [hok]
  show Rn (fun k => qe k _) _
  unfold qe
  dsimp only
  refine Rn.f (fun h => by cases h) ?_
  by_cases z3 : d3 = 0
  rotate_left
  ·refine Rn.t (by simp [z3]) (Rn.const (congrArg some ?_))
   simp [z3]
  refine Rn.f (by simp [z3]) (Rn.f (fun h => by cases h) (Rn.t rfl ?_))
  by_cases z4 : d4 = 0
  rotate_left
  ·refine Rn.f (by simp [z4]) (Rn.const (congrArg some ?_))
   simp [z4]
  refine Rn.t (by simp [z4]) ?_
  by_cases z5 : d5 = 0
  rotate_left
  ·refine Rn.f (by simp [z5]) (Rn.const (congrArg some ?_))
   simp [z5]
  refine Rn.t (by simp [z5]) (Rn.t rfl (Rn.bind g3 ?_))
  cases hw : okW d6 d7 d8
  ·refine Rn.f (by decide) (Rn.const (congrArg some ?_))
   simp
  refine Rn.t (by decide) (Rn.f (fun h => by cases h) (Rn.f (fun h => by cases h) (Rn.bind g4 (Rn.const (congrArg some ?_)))))
  simp [z3, z4, z5]
 refine Rn.f (by simp [k105]) ?_
 by_cases k101 : d0 = 101
 ·refine Rn.t (by simp [k101]) ?_
  by_cases c1 : (d2.length : Int) = 4
  rotate_left
  ·refine Rn.f (by simp [c1]) (Rn.const (congrArg some ?_))
   simp [okR, k101, qal, c1]
  refine Rn.t (by simp [c1]) (Rn.bind g1 ?_)
  have g2 := qbB f0 f1 f2 f3 f4 d0 d1 d2 d3 d4 d5 d6 d7 d8 d9 d10 d11 d12 h2 4 false true false false c1
  cases hl : qbV d1
  ·refine Rn.t (by rfl) (Rn.const (congrArg some ?_))
   simp [okR, hl]
  refine Rn.f (by decide) (Rn.bind g2 ?_)
  cases hr : qdV f0.length d2
  ·refine Rn.const (congrArg some ?_)
   simp [okR, hr]
  rw [if_pos (show true = true from rfl)]
  have hok : okR f0.length f1 d0 d1 d2 d3 d4 d5 d6 d7 d8 d9 d10 d11 d12 = (decide (d3 = 0) && okN d4 d5 && noW d6 d7 d8 && noM d9 d10 d11 d12) := by
   simp [okR, k101, qal, c1, hl, hr]
  rw [hok]
  show Rn (fun k => qe k _) _
  unfold qe
  dsimp only
  refine Rn.f (fun h => by cases h) ?_
  by_cases z3 : d3 = 0
  rotate_left
  ·refine Rn.t (by simp [z3]) (Rn.const (congrArg some ?_))
   simp [z3]
  refine Rn.f (by simp [z3]) (Rn.t rfl (Rn.bind g7 ?_))
  cases hn : okN d4 d5
  ·refine Rn.f (by decide) (Rn.const (congrArg some ?_))
   simp
  refine Rn.t (by decide) (Rn.f (fun h => by cases h) (Rn.f (fun h => by cases h) (Rn.t rfl (Rn.bind g5 ?_))))
  cases hw : noW d6 d7 d8
  ·refine Rn.t (by decide) (Rn.const (congrArg some ?_))
   simp
  refine Rn.f (by decide) (Rn.f (fun h => by cases h) (Rn.bind g4 (Rn.const (congrArg some ?_))))
  simp [z3]
 refine Rn.f (by simp [k101]) ?_
 by_cases k103 : d0 = 103
 ·refine Rn.t (by simp [k103]) ?_
  by_cases c1 : (d2.length : Int) = 4
  rotate_left
  ·refine Rn.f (by simp [c1]) (Rn.const (congrArg some ?_))
   simp [okR, k103, qal, c1]
  refine Rn.t (by simp [c1]) (Rn.bind g1 ?_)
  have g2 := qbB f0 f1 f2 f3 f4 d0 d1 d2 d3 d4 d5 d6 d7 d8 d9 d10 d11 d12 h2 4 false true false false c1
  cases hl : qbV d1
  ·refine Rn.t (by rfl) (Rn.const (congrArg some ?_))
   simp [okR, hl]
  refine Rn.f (by decide) (Rn.bind g2 ?_)
  cases hr : qdV f0.length d2
  ·refine Rn.const (congrArg some ?_)
   simp [okR, hr]
  rw [if_pos (show true = true from rfl)]
  have hok : okR f0.length f1 d0 d1 d2 d3 d4 d5 d6 d7 d8 d9 d10 d11 d12 = (decide (d3 = 0) && okN d4 d5 && noW d6 d7 d8 && noM d9 d10 d11 d12) := by
   simp [okR, k103, qal, c1, hl, hr]
  rw [hok]
  show Rn (fun k => qe k _) _
  unfold qe
  dsimp only
  refine Rn.f (fun h => by cases h) ?_
  by_cases z3 : d3 = 0
  rotate_left
  ·refine Rn.t (by simp [z3]) (Rn.const (congrArg some ?_))
   simp [z3]
  refine Rn.f (by simp [z3]) (Rn.t rfl (Rn.bind g7 ?_))
  cases hn : okN d4 d5
  ·refine Rn.f (by decide) (Rn.const (congrArg some ?_))
   simp
  refine Rn.t (by decide) (Rn.f (fun h => by cases h) (Rn.f (fun h => by cases h) (Rn.t rfl (Rn.bind g5 ?_))))
  cases hw : noW d6 d7 d8
  ·refine Rn.t (by decide) (Rn.const (congrArg some ?_))
   simp
  refine Rn.f (by decide) (Rn.f (fun h => by cases h) (Rn.bind g4 (Rn.const (congrArg some ?_))))
  simp [z3]
 refine Rn.f (by simp [k103]) ?_
 by_cases k116 : d0 = 116
 ·refine Rn.t (by simp [k116]) ?_
  by_cases c1 : (d2.length : Int) = 4
  rotate_left
  ·refine Rn.f (by simp [c1]) (Rn.const (congrArg some ?_))
   simp [okR, k116, qal, c1]
  refine Rn.t (by simp [c1]) (Rn.bind g1 ?_)
  have g2 := qbB f0 f1 f2 f3 f4 d0 d1 d2 d3 d4 d5 d6 d7 d8 d9 d10 d11 d12 h2 4 false true false false c1
  cases hl : qbV d1
  ·refine Rn.t (by rfl) (Rn.const (congrArg some ?_))
   simp [okR, hl]
  refine Rn.f (by decide) (Rn.bind g2 ?_)
  cases hr : qdV f0.length d2
  ·refine Rn.const (congrArg some ?_)
   simp [okR, hr]
  rw [if_pos (show true = true from rfl)]
  have hok : okR f0.length f1 d0 d1 d2 d3 d4 d5 d6 d7 d8 d9 d10 d11 d12 = (decide (d3 = 0) && okN d4 d5 && noW d6 d7 d8 && noM d9 d10 d11 d12) := by
   simp [okR, k116, qal, c1, hl, hr]
  rw [hok]
  show Rn (fun k => qe k _) _
  unfold qe
  dsimp only
  refine Rn.f (fun h => by cases h) ?_
  by_cases z3 : d3 = 0
  rotate_left
  ·refine Rn.t (by simp [z3]) (Rn.const (congrArg some ?_))
   simp [z3]
  refine Rn.f (by simp [z3]) (Rn.t rfl (Rn.bind g7 ?_))
  cases hn : okN d4 d5
  ·refine Rn.f (by decide) (Rn.const (congrArg some ?_))
   simp
  refine Rn.t (by decide) (Rn.f (fun h => by cases h) (Rn.f (fun h => by cases h) (Rn.t rfl (Rn.bind g5 ?_))))
  cases hw : noW d6 d7 d8
  ·refine Rn.t (by decide) (Rn.const (congrArg some ?_))
   simp
  refine Rn.f (by decide) (Rn.f (fun h => by cases h) (Rn.bind g4 (Rn.const (congrArg some ?_))))
  simp [z3]
 refine Rn.f (by simp [k116]) ?_
 by_cases k102 : d0 = 102
 ·refine Rn.t (by simp [k102]) ?_
  by_cases c1 : (d2.length : Int) = 2
  rotate_left
  ·refine Rn.f (by simp [c1]) (Rn.const (congrArg some ?_))
   simp [okR, k102, qal, c1]
  refine Rn.t (by simp [c1]) (Rn.bind g1 ?_)
  have g2 := qbB f0 f1 f2 f3 f4 d0 d1 d2 d3 d4 d5 d6 d7 d8 d9 d10 d11 d12 h2 2 true true false false c1
  cases hl : qbV d1
  ·refine Rn.t (by rfl) (Rn.const (congrArg some ?_))
   simp [okR, hl]
  refine Rn.f (by decide) (Rn.bind g2 ?_)
  cases hr : qdV f0.length d2
  ·refine Rn.const (congrArg some ?_)
   simp [okR, hr]
  rw [if_pos (show true = true from rfl)]
  have hok : okR f0.length f1 d0 d1 d2 d3 d4 d5 d6 d7 d8 d9 d10 d11 d12 = (qcM f1 d3 && okN d4 d5 && noW d6 d7 d8 && noM d9 d10 d11 d12) := by
   simp [okR, k102, qal, c1, hl, hr]
  rw [hok]
  show Rn (fun k => qe k _) _
  unfold qe
  dsimp only
  refine Rn.t rfl ?_
  by_cases r1 : d3 < 0
  ·refine Rn.f (by simpa using r1) (Rn.const (congrArg some ?_))
   have hv : qcM f1 d3 = false := by unfold qcM; rw [decide_eq_false (by omega), Bool.false_and]
   simp [hv]
  refine Rn.t (by simpa using r1) ?_
  by_cases r2 : d3 ≥ (f1.length : Int)
  ·refine Rn.f (by simpa using r2) (Rn.const (congrArg some ?_))
   have hv : qcM f1 d3 = false := by unfold qcM; rw [decide_eq_false (by omega), Bool.false_and]
   simp [hv]
  obtain ⟨x, hx⟩ : ∃ x, f1[d3.toNat]? = some x := ⟨_, List.getElem?_eq_getElem (by omega)⟩
  refine Rn.t (by simpa using r2) (Rn.t (show (0 : Int) ≤ d3 by omega) (Rn.at hx ?_))
  by_cases r3 : x.1 = 118
  rotate_left
  ·refine Rn.t (by simpa using r3) (Rn.const (congrArg some ?_))
   have hv : qcM f1 d3 = false := by unfold qcM; rw [hx]; simp [r3]
   simp [hv]
  have hv : qcM f1 d3 = true := by simp [qcM, hx, r3]; omega
  refine Rn.f (by simpa using r3) (Rn.t rfl (Rn.bind g7 ?_))
  cases hn : okN d4 d5
  ·refine Rn.f (by decide) (Rn.const (congrArg some ?_))
   simp
  refine Rn.t (by decide) (Rn.f (fun h => by cases h) (Rn.f (fun h => by cases h) (Rn.t rfl (Rn.bind g5 ?_))))
  cases hw : noW d6 d7 d8
  ·refine Rn.t (by decide) (Rn.const (congrArg some ?_))
   simp
  refine Rn.f (by decide) (Rn.f (fun h => by cases h) (Rn.bind g4 (Rn.const (congrArg some ?_))))
  simp [hv]
 refine Rn.f (by simp [k102]) ?_
 by_cases k104 : d0 = 104
 ·refine Rn.t (by simp [k104]) ?_
  by_cases c1 : (d2.length : Int) = 2
  rotate_left
  ·refine Rn.f (by simp [c1]) (Rn.const (congrArg some ?_))
   simp [okR, k104, qal, c1]
  refine Rn.t (by simp [c1]) (Rn.bind g1 ?_)
  have g2 := qbB f0 f1 f2 f3 f4 d0 d1 d2 d3 d4 d5 d6 d7 d8 d9 d10 d11 d12 h2 2 true true false false c1
  cases hl : qbV d1
  ·refine Rn.t (by rfl) (Rn.const (congrArg some ?_))
   simp [okR, hl]
  refine Rn.f (by decide) (Rn.bind g2 ?_)
  cases hr : qdV f0.length d2
  ·refine Rn.const (congrArg some ?_)
   simp [okR, hr]
  rw [if_pos (show true = true from rfl)]
  have hok : okR f0.length f1 d0 d1 d2 d3 d4 d5 d6 d7 d8 d9 d10 d11 d12 = (qcM f1 d3 && okN d4 d5 && noW d6 d7 d8 && noM d9 d10 d11 d12) := by
   simp [okR, k104, qal, c1, hl, hr]
  rw [hok]
  show Rn (fun k => qe k _) _
  unfold qe
  dsimp only
  refine Rn.t rfl ?_
  by_cases r1 : d3 < 0
  ·refine Rn.f (by simpa using r1) (Rn.const (congrArg some ?_))
   have hv : qcM f1 d3 = false := by unfold qcM; rw [decide_eq_false (by omega), Bool.false_and]
   simp [hv]
  refine Rn.t (by simpa using r1) ?_
  by_cases r2 : d3 ≥ (f1.length : Int)
  ·refine Rn.f (by simpa using r2) (Rn.const (congrArg some ?_))
   have hv : qcM f1 d3 = false := by unfold qcM; rw [decide_eq_false (by omega), Bool.false_and]
   simp [hv]
  obtain ⟨x, hx⟩ : ∃ x, f1[d3.toNat]? = some x := ⟨_, List.getElem?_eq_getElem (by omega)⟩
  refine Rn.t (by simpa using r2) (Rn.t (show (0 : Int) ≤ d3 by omega) (Rn.at hx ?_))
  by_cases r3 : x.1 = 118
  rotate_left
  ·refine Rn.t (by simpa using r3) (Rn.const (congrArg some ?_))
   have hv : qcM f1 d3 = false := by unfold qcM; rw [hx]; simp [r3]
   simp [hv]
  have hv : qcM f1 d3 = true := by simp [qcM, hx, r3]; omega
  refine Rn.f (by simpa using r3) (Rn.t rfl (Rn.bind g7 ?_))
  cases hn : okN d4 d5
  ·refine Rn.f (by decide) (Rn.const (congrArg some ?_))
   simp
  refine Rn.t (by decide) (Rn.f (fun h => by cases h) (Rn.f (fun h => by cases h) (Rn.t rfl (Rn.bind g5 ?_))))
  cases hw : noW d6 d7 d8
  ·refine Rn.t (by decide) (Rn.const (congrArg some ?_))
   simp
  refine Rn.f (by decide) (Rn.f (fun h => by cases h) (Rn.bind g4 (Rn.const (congrArg some ?_))))
  simp [hv]
 refine Rn.f (by simp [k104]) ?_
 by_cases k100 : d0 = 100
 ·refine Rn.t (by simp [k100]) ?_
  by_cases c1 : (d2.length : Int) = 2
  rotate_left
  ·refine Rn.f (by simp [c1]) (Rn.const (congrArg some ?_))
   simp [okR, k100, qal, c1]
  refine Rn.t (by simp [c1]) (Rn.bind g1 ?_)
  have g2 := qbB f0 f1 f2 f3 f4 d0 d1 d2 d3 d4 d5 d6 d7 d8 d9 d10 d11 d12 h2 2 false false false true c1
  cases hl : qbV d1
  ·refine Rn.t (by rfl) (Rn.const (congrArg some ?_))
   simp [okR, hl]
  refine Rn.f (by decide) (Rn.bind g2 ?_)
  cases hr : qdV f0.length d2
  ·refine Rn.const (congrArg some ?_)
   simp [okR, hr]
  rw [if_pos (show true = true from rfl)]
  have hok : okR f0.length f1 d0 d1 d2 d3 d4 d5 d6 d7 d8 d9 d10 d11 d12 = (noW d6 d7 d8 && decide (d4 = 0) && decide (d5 = 0) && okM d9 d10 d11 d12 && decide (d10 = d0) && decide (d3 = 0)) := by
   simp [okR, k100, qal, c1, hl, hr]
  rw [hok]
  show Rn (fun k => qe k _) _
  unfold qe
  dsimp only
  refine Rn.f (fun h => by cases h) ?_
  by_cases z3 : d3 = 0
  rotate_left
  ·refine Rn.t (by simp [z3]) (Rn.const (congrArg some ?_))
   simp [z3]
  refine Rn.f (by simp [z3]) (Rn.f (fun h => by cases h) (Rn.t rfl ?_))
  by_cases z4 : d4 = 0
  rotate_left
  ·refine Rn.f (by simp [z4]) (Rn.const (congrArg some ?_))
   simp [z4]
  refine Rn.t (by simp [z4]) ?_
  by_cases z5 : d5 = 0
  rotate_left
  ·refine Rn.f (by simp [z5]) (Rn.const (congrArg some ?_))
   simp [z5]
  refine Rn.t (by simp [z5]) (Rn.f (fun h => by cases h) (Rn.t rfl (Rn.bind g5 ?_)))
  cases hw : noW d6 d7 d8
  ·refine Rn.t (by decide) (Rn.const (congrArg some ?_))
   simp
  refine Rn.f (by decide) (Rn.t rfl (Rn.bind g6 ?_))
  cases hm : okM d9 d10 d11 d12
  ·refine Rn.f (by decide) (Rn.const (congrArg some ?_))
   simp
  refine Rn.t rfl (Rn.const (congrArg some ?_))
  rw [Bool.eq_iff_iff, beq_iff_eq]
  simp [z3, z4, z5]
 refine Rn.f (by simp [k100]) ?_
 by_cases k115 : d0 = 115
 ·refine Rn.t (by simp [k115]) ?_
  by_cases c1 : (d2.length : Int) = 4
  rotate_left
  ·refine Rn.f (by simp [c1]) (Rn.const (congrArg some ?_))
   simp [okR, k115, qal, c1]
  refine Rn.t (by simp [c1]) (Rn.bind g1 ?_)
  have g2 := qbB f0 f1 f2 f3 f4 d0 d1 d2 d3 d4 d5 d6 d7 d8 d9 d10 d11 d12 h2 4 false false false true c1
  cases hl : qbV d1
  ·refine Rn.t (by rfl) (Rn.const (congrArg some ?_))
   simp [okR, hl]
  refine Rn.f (by decide) (Rn.bind g2 ?_)
  cases hr : qdV f0.length d2
  ·refine Rn.const (congrArg some ?_)
   simp [okR, hr]
  rw [if_pos (show true = true from rfl)]
  have hok : okR f0.length f1 d0 d1 d2 d3 d4 d5 d6 d7 d8 d9 d10 d11 d12 = (noW d6 d7 d8 && decide (d4 = 0) && decide (d5 = 0) && okM d9 d10 d11 d12 && decide (d10 = d0) && decide (d3 = 0)) := by
   simp [okR, k115, qal, c1, hl, hr]
  rw [hok]
  show Rn (fun k => qe k _) _
  unfold qe
  dsimp only
  refine Rn.f (fun h => by cases h) ?_
  by_cases z3 : d3 = 0
  rotate_left
  ·refine Rn.t (by simp [z3]) (Rn.const (congrArg some ?_))
   simp [z3]
  refine Rn.f (by simp [z3]) (Rn.f (fun h => by cases h) (Rn.t rfl ?_))
  by_cases z4 : d4 = 0
  rotate_left
  ·refine Rn.f (by simp [z4]) (Rn.const (congrArg some ?_))
   simp [z4]
  refine Rn.t (by simp [z4]) ?_
  by_cases z5 : d5 = 0
  rotate_left
  ·refine Rn.f (by simp [z5]) (Rn.const (congrArg some ?_))
   simp [z5]
  refine Rn.t (by simp [z5]) (Rn.f (fun h => by cases h) (Rn.t rfl (Rn.bind g5 ?_)))
  cases hw : noW d6 d7 d8
  ·refine Rn.t (by decide) (Rn.const (congrArg some ?_))
   simp
  refine Rn.f (by decide) (Rn.t rfl (Rn.bind g6 ?_))
  cases hm : okM d9 d10 d11 d12
  ·refine Rn.f (by decide) (Rn.const (congrArg some ?_))
   simp
  refine Rn.t rfl (Rn.const (congrArg some ?_))
  rw [Bool.eq_iff_iff, beq_iff_eq]
  simp [z3, z4, z5]
 refine Rn.f (by simp [k115]) ?_
 refine Rn.const (congrArg some ?_)
 have : qal d0 = 0 := by unfold qal; rw [if_neg (by omega), if_neg (by omega)]
 simp [okR, this]
end
theorem qt8 {d : Dv} (g : GoodD d) : brB d = true ↔ d.1 = 118 ∨ d.1 = 101 ∨ d.1 = 104 ∨ d.1 = 99 ∨ d.1 = 108 ∨ d.1 = 116 := by
 unfold brB
 rw [decide_eq_true_eq, qif]
 change d.1.toNat.toUInt8 ∈ [(118 : UInt8), 101, 104, 99, 108, 116] ↔ _
 simp only [List.mem_cons, List.not_mem_nil, or_false]
 have h := fun n hn => qpo g.kd n hn
 have h1 := h 118 (by omega)
 have h2 := h 101 (by omega)
 have h3 := h 104 (by omega)
 have h4 := h 99 (by omega)
 have h5 := h 108 (by omega)
 have h6 := h 116 (by omega)
 exact or_congr h1 (or_congr h2 (or_congr h3 (or_congr h4 (or_congr h5 h6))))
theorem qnm {d : Dv} (g : GoodD d) : Rn (fun k => qc4 k d.1) (brB d) := by
 refine Rn.up (f := fun k => qc4 k d.1) ?_
 show Rn (fun k => qd5 k d.1) _
 have h := qt8 g
 generalize brB d = b at h
 unfold qd5
 have key : ∀ c : Prop, (b = true ↔ c) → ∀ (x : Bool), (x = true ↔ c) → x = b := fun c hb x hx => Bool.eq_iff_iff.2 (hx.trans hb.symm)
 by_cases k1 : d.1 = 118
 ·exact Rn.f (by simp [k1]) (Rn.const (congrArg some (h.2 (.inl k1)).symm))
 refine Rn.t (by simp [k1]) ?_
 by_cases k2 : d.1 = 101
 ·exact Rn.f (by simp [k2]) (Rn.const (congrArg some (h.2 (by omega)).symm))
 refine Rn.t (by simp [k2]) ?_
 by_cases k3 : d.1 = 104
 ·exact Rn.f (by simp [k3]) (Rn.const (congrArg some (h.2 (by omega)).symm))
 refine Rn.t (by simp [k3]) ?_
 by_cases k4 : d.1 = 99
 ·exact Rn.f (by simp [k4]) (Rn.const (congrArg some (h.2 (by omega)).symm))
 refine Rn.t (by simp [k4]) ?_
 by_cases k5 : d.1 = 108
 ·exact Rn.f (by simp [k5]) (Rn.const (congrArg some (h.2 (by omega)).symm))
 refine Rn.t (by simp [k5]) (Rn.const (congrArg some (key _ h _ ?_)))
 rw [beq_iff_eq]
 omega
section
variable (f0 : List ByteArray) (f1 : List Dv) (f2 f3 f4 : Int) (g : Gd f0 f1)
include g
theorem qnn : ∀ (d i : Nat) (n : Int) (ls : List Int), i + d = f1.length → ls.length = i → 0 ≤ n + 1 → n ≤ 1000000000 + i →
  Rl (fun k q => qbo k q n ls.length (i : Int) f0 f1 f2 f3 f4 ls) (n + qfL (f1.drop i), f1.length, f0, f1, f2, f3, f4, ls ++ brL n (f1.drop i)) := by
 intro d
 induction d with
 | zero =>
  intro i n ls e h1 h2 h3
  obtain rfl : i = f1.length := by omega
  rw [List.drop_length]
  refine Rl.up (f := fun k q => qbo k q n ls.length (f1.length : Int) f0 f1 f2 f3 f4 ls) ?_
  show Rl (fun k q => qci k (qbo k q) _ _ _ _ _ _ _ _ _) _
  unfold qci
  simp only [brL, List.append_nil]
  rw [h1]
  exact Rl.f (by simp) (by simpa [qfL] using Rl.pure _)
 | succ d ih =>
  intro i n ls e h1 h2 h3
  have hi : i < f1.length := by omega
  have hgd := g.dv _ (List.getElem_mem hi)
  have hl1 := g.l1
  have eg : f1[i]? = some f1[i] := List.getElem?_eq_getElem hi
  have edr : f1.drop i = f1[i] :: f1.drop (i + 1) := List.drop_eq_getElem_cons hi
  generalize f1[i] = x at eg edr hgd
  rw [edr]
  refine Rl.up (f := fun k q => qbo k q n ls.length (i : Int) f0 f1 f2 f3 f4 ls) ?_
  show Rl (fun k q => qci k (qbo k q) _ _ _ _ _ _ _ _ _) _
  unfold qci
  rw [qf (x := (i : Int) + 1) (by omega)]
  refine Rl.t (by first | omega | (simp only [decide_eq_true_eq, decide_eq_false_iff_not, Int.toNat_natCast, beq_iff_eq, bne_iff_ne, ne_eq, Int.not_lt, Int.not_le, ge_iff_le, gt_iff_lt, beq_eq_false_iff_ne, Nat.zero_add]; omega)) (Rl.t (by first | omega | (simp only [decide_eq_true_eq, decide_eq_false_iff_not, Int.toNat_natCast, beq_iff_eq, bne_iff_ne, ne_eq, Int.not_lt, Int.not_le, ge_iff_le, gt_iff_lt, beq_eq_false_iff_ne, Nat.zero_add]; omega)) (Rl.at (by rw [Int.toNat_natCast]; exact eg) (Rl.bind (qnm hgd) ?_)))
  by_cases hb : brB x = true
  ·have ih' := ih (i + 1) (n + 1) (ls ++ [n]) (by omega) (by rw [List.length_append]; simp; omega) (by omega) (by omega)
   rw [qf (x := n + 1) (by omega)]
   have e1 : List.take 1 [n] = [n] := rfl
   refine Rl.t hb (Rl.t (Nat.le_refl _) (Rl.t (by rw [e1]; simp only [List.length_singleton]; omega) ?_))
   rw [e1, List.take_length]
   rw [List.length_append] at ih'
   rw [brL, if_pos hb, qfL, List.countP_cons_of_pos hb]
   rw [show n + ((List.countP brB (f1.drop (i + 1)) + 1 : Nat) : Int) = n + 1 + ((List.countP brB (f1.drop (i + 1)) : Nat) : Int) by omega]
   rw [List.append_assoc] at ih'
   exact ih'
  ·have ih' := ih (i + 1) n (ls ++ [-1]) (by omega) (by rw [List.length_append]; simp; omega) (by omega) (by omega)
   have e1 : List.take 1 [(-1 : Int)] = [-1] := rfl
   refine Rl.f hb (Rl.t (Nat.le_refl _) (Rl.t (by omega) ?_))
   rw [e1, List.take_length]
   rw [List.length_append] at ih'
   rw [brL, if_neg hb, qfL, List.countP_cons_of_neg hb]
   rw [List.append_assoc] at ih'
   exact ih'
theorem qsl : Rn (fun k => qc1 k f0 f1 f2 f3 f4) ((f0.length : Int) - 1 + qfL f1, brL ((f0.length : Int) - 1) f1) := by
 have h0 := g.l0
 have h := qnn f0 f1 f2 f3 f4 g f1.length 0 ((f0.length : Int) - 1) [] (by omega) rfl (by omega) (by omega)
 rw [List.drop_zero] at h
 refine Rn.up (f := fun k => qc1 k f0 f1 f2 f3 f4) ?_
 show Rn (fun k => qfc k f0 f1 f2 f3 f4) _
 unfold qfc
 rw [qf (x := (f0.length : Int) - 1) (by omega)]
 refine Rn.bind h.diag (Rn.t (by simp [qhG]) (Rn.const (congrArg some ?_)))
 simp only [List.nil_append]
 rw [List.take_of_length_le (by rw [qhG]; exact Nat.le_refl _)]
theorem qpq (d : Dv) (hd : d ∈ f1) : Rn (fun k => qc0 k f0 f1 f2 f3 f4 d.1 d.2.1 d.2.2.1 d.2.2.2.1 d.2.2.2.2.1.1 d.2.2.2.2.1.2 d.2.2.2.2.2.1.1 d.2.2.2.2.2.1.2.1 d.2.2.2.2.2.1.2.2 d.2.2.2.2.2.2.1 d.2.2.2.2.2.2.2.1 d.2.2.2.2.2.2.2.2.1 d.2.2.2.2.2.2.2.2.2) (qeX f0.length f1 d) := by
 have h := g.dv d hd
 have a1 := h.nm
 have a2 := h.nd
 have a3 := h.wv
 have a4 := h.ws
 have a5 := h.mn
 have a6 := h.mg
 have a7 := h.mv
 exact qqR f0 f1 f2 f3 f4 _ _ _ _ _ _ _ _ _ _ _ _ _ a1 (by omega) (by omega) (by omega) (by omega) (by omega) (by omega)
theorem qno : ∀ (d i : Nat) (ls : List ByteArray), i + d = f1.length → ls = (f1.take i).map (fun d => d.2.1) →
  ∃ a, a.1 = (90 : Int) ∧ Rl (fun k q => qai k q ls.length (i : Int) f0 f1 f2 f3 f4 ls) (if (f1.drop i).all (qeX f0.length f1) = true then .inr (f1.length, f0, f1, f2, f3, f4, f1.map fun d => d.2.1) else .inl a) := by
 intro d
 induction d with
 | zero =>
  intro i ls e hl
  obtain rfl : i = f1.length := by omega
  rw [List.take_length] at hl
  refine ⟨(90, f0, f1, f2, f3, f4, []), rfl, Rl.up (f := fun k q => qai k q ls.length (f1.length : Int) f0 f1 f2 f3 f4 ls) ?_⟩
  show Rl (fun k q => qaZ k (qai k q) _ _ _ _ _ _ _ _) _
  unfold qaZ
  rw [List.drop_length, if_pos (show ([] : List Dv).all (qeX f0.length f1) = true from rfl), hl, List.length_map]
  exact Rl.f (by simp) (Rl.pure _)
 | succ d ih =>
  intro i ls e hl
  have hi : i < f1.length := by omega
  have hm := List.getElem_mem hi
  have eg : f1[i]? = some f1[i] := List.getElem?_eq_getElem hi
  have edr : f1.drop i = f1[i] :: f1.drop (i + 1) := List.drop_eq_getElem_cons hi
  have et : f1.take (i + 1) = f1.take i ++ [f1[i]] := by rw [List.take_add_one, eg]; rfl
  generalize f1[i] = x at eg edr et hm
  have hx := qpq f0 f1 f2 f3 f4 g x hm
  have hg := g.l1
  have hlen : ls.length = i := by rw [hl, List.length_map, List.length_take]; omega
  rw [edr, List.all_cons]
  cases hb : qeX f0.length f1 x
  ·rw [hb] at hx
   refine ⟨(90, f0, f1, f2, f3, f4, ls), rfl, Rl.up (f := fun k q => qai k q ls.length (i : Int) f0 f1 f2 f3 f4 ls) ?_⟩
   show Rl (fun k q => qaZ k (qai k q) _ _ _ _ _ _ _ _) _
   unfold qaZ
   rw [Bool.false_and, if_neg (show ¬ false = true by decide)]
   exact Rl.t (by first | omega | (simp only [decide_eq_true_eq, decide_eq_false_iff_not, Int.toNat_natCast, beq_iff_eq, bne_iff_ne, ne_eq, Int.not_lt, Int.not_le, ge_iff_le, gt_iff_lt, beq_eq_false_iff_ne, Nat.zero_add]; omega)) (Rl.t (by first | omega | (simp only [decide_eq_true_eq, decide_eq_false_iff_not, Int.toNat_natCast, beq_iff_eq, bne_iff_ne, ne_eq, Int.not_lt, Int.not_le, ge_iff_le, gt_iff_lt, beq_eq_false_iff_ne, Nat.zero_add]; omega)) (Rl.at (by rw [Int.toNat_natCast]; exact eg) (Rl.bind hx (Rl.t (by decide) (Rl.pure _)))))
  ·rw [hb] at hx
   obtain ⟨a, ha, b⟩ := ih (i + 1) (ls ++ [x.2.1]) (by omega) (by rw [et, List.map_append, ← hl]; rfl)
   refine ⟨a, ha, Rl.up (f := fun k q => qai k q ls.length (i : Int) f0 f1 f2 f3 f4 ls) ?_⟩
   show Rl (fun k q => qaZ k (qai k q) _ _ _ _ _ _ _ _) _
   unfold qaZ
   rw [qf (x := (i : Int) + 1) (by omega), Bool.true_and]
   have e1 : List.take 1 [x.2.1] = [x.2.1] := rfl
   refine Rl.t (by first | omega | (simp only [decide_eq_true_eq, decide_eq_false_iff_not, Int.toNat_natCast, beq_iff_eq, bne_iff_ne, ne_eq, Int.not_lt, Int.not_le, ge_iff_le, gt_iff_lt, beq_eq_false_iff_ne, Nat.zero_add]; omega)) (Rl.t (by first | omega | (simp only [decide_eq_true_eq, decide_eq_false_iff_not, Int.toNat_natCast, beq_iff_eq, bne_iff_ne, ne_eq, Int.not_lt, Int.not_le, ge_iff_le, gt_iff_lt, beq_eq_false_iff_ne, Nat.zero_add]; omega)) (Rl.at (by rw [Int.toNat_natCast]; exact eg) (Rl.bind hx (Rl.f (by decide) (Rl.t (by first | omega | (simp only [decide_eq_true_eq, decide_eq_false_iff_not, Int.toNat_natCast, beq_iff_eq, bne_iff_ne, ne_eq, Int.not_lt, Int.not_le, ge_iff_le, gt_iff_lt, beq_eq_false_iff_ne, Nat.zero_add]; omega)) (Rl.at (by rw [Int.toNat_natCast]; exact eg) (Rl.t (Nat.le_refl _) (Rl.t (by rw [e1]; simp only [List.length_singleton]; omega) ?_))))))))
   rw [e1, List.take_length]
   rw [List.length_append] at b
   exact b
theorem qmW (n : Nat) (nl : List ByteArray) : ∃ a, a.1 = (90 : Int) ∧ Rn (fun k => qJ k k n 0 f0 f1 f2 f3 f4 nl) (if f0.all qbV = true then .inr (n, f0, f1, f2, f3, f4, nl) else .inl a) := by
 obtain ⟨o, b1, b2⟩ := qds f0.length 0 (fun k q i => qJ k q n i f0 f1 f2 f3 f4 nl) (n, f0, f1, f2, f3, f4, nl) (fun a => a = (90, f0, f1, f2, f3, f4, nl)) (fun j => ∀ x, f0[j]? = some x → qbV x = true) (by
   refine Rl.up (f := fun k q => qJ k q n f0.length f0 f1 f2 f3 f4 nl) ?_
   show Rl (fun k q => qa0 k (qJ k q) _ _ _ _ _ _ _ _) _
   unfold qa0
   exact Rl.f (by simp) (Rl.pure _)) (by
   intro i hs hi hok o ho
   refine Rl.up (f := fun k q => qJ k q n i f0 f1 f2 f3 f4 nl) ?_
   show Rl (fun k q => qa0 k (qJ k q) _ _ _ _ _ _ _ _) _
   unfold qa0
   have eg := List.getElem?_eq_getElem hi
   have hnm := g.nm _ (List.getElem_mem hi)
   have hx := qjB (f0[i]'hi) (by omega)
   rw [hok _ eg] at hx
   have := g.l0
   rw [qf (x := (i : Int) + 1) (by omega)]
   exact Rl.t (by first | omega | (simp only [decide_eq_true_eq, decide_eq_false_iff_not, Int.toNat_natCast, beq_iff_eq, bne_iff_ne, ne_eq, Int.not_lt, Int.not_le, ge_iff_le, gt_iff_lt, beq_eq_false_iff_ne, Nat.zero_add]; omega)) (Rl.t (by first | omega | (simp only [decide_eq_true_eq, decide_eq_false_iff_not, Int.toNat_natCast, beq_iff_eq, bne_iff_ne, ne_eq, Int.not_lt, Int.not_le, ge_iff_le, gt_iff_lt, beq_eq_false_iff_ne, Nat.zero_add]; omega)) (Rl.at (by rw [Int.toNat_natCast]; exact eg) (Rl.bind hx (Rl.f (by decide) ho))))) (by
   intro i hs hi hok
   refine ⟨_, rfl, Rl.up (f := fun k q => qJ k q n i f0 f1 f2 f3 f4 nl) ?_⟩
   show Rl (fun k q => qa0 k (qJ k q) _ _ _ _ _ _ _ _) _
   unfold qa0
   have eg := List.getElem?_eq_getElem hi
   have hnm := g.nm _ (List.getElem_mem hi)
   have hx := qjB (f0[i]'hi) (by omega)
   have hf : qbV (f0[i]'hi) = false := by
    rw [← Bool.not_eq_true]
    exact fun h => hok fun x hx => by rw [eg] at hx; cases hx; exact h
   rw [hf] at hx
   exact Rl.t (by first | omega | (simp only [decide_eq_true_eq, decide_eq_false_iff_not, Int.toNat_natCast, beq_iff_eq, bne_iff_ne, ne_eq, Int.not_lt, Int.not_le, ge_iff_le, gt_iff_lt, beq_eq_false_iff_ne, Nat.zero_add]; omega)) (Rl.t (by first | omega | (simp only [decide_eq_true_eq, decide_eq_false_iff_not, Int.toNat_natCast, beq_iff_eq, bne_iff_ne, ne_eq, Int.not_lt, Int.not_le, ge_iff_le, gt_iff_lt, beq_eq_false_iff_ne, Nat.zero_add]; omega)) (Rl.at (by rw [Int.toNat_natCast]; exact eg) (Rl.bind hx (Rl.t (by decide) (Rl.pure _)))))) f0.length 0 (by omega) (by omega)
 have hall : f0.all qbV = true ↔ ∀ j, 0 ≤ j → j < f0.length → ∀ x, f0[j]? = some x → qbV x = true := by
  rw [List.all_eq_true]
  exact ⟨fun h j _ _ x hx => h x (List.mem_of_getElem? hx), fun h x hx => by
   obtain ⟨j, hj, e⟩ := List.mem_iff_getElem.1 hx
   exact h j (Nat.zero_le _) hj x (by rw [List.getElem?_eq_getElem hj, e])⟩
 refine ⟨(90, f0, f1, f2, f3, f4, nl), rfl, ?_⟩
 rcases b2 with ⟨b2, rfl⟩ | ⟨b2, a, rfl, rfl⟩
 ·rw [if_pos (hall.2 b2)]; exact b1.diag
 ·rw [if_neg (fun h => b2 (hall.1 h))]; exact b1.diag
theorem qqS : Rn (fun k => qbd k f0 f1 f2 f3 f4) (chk f0 f1 f2 f3 f4) := by
 refine Rn.up (f := fun k => qbd k f0 f1 f2 f3 f4) ?_
 show Rn (fun k => qfd k f0 f1 f2 f3 f4) _
 have g0 := g.l0
 have g1 := g.l1
 have hno : qeu f0 f1 f2 f3 f4 = false → chk f0 f1 f2 f3 f4 = 90 := fun h => if_neg (by rw [h]; decide)
 unfold qfd
 refine Rn.bind (qc8 f2 f3) ?_
 cases hn : okN f2 f3
 ·rw [hno (by simp [qeu, hn])]; exact Rn.f (by decide) (Rn.pure _)
 refine Rn.t (by decide) ?_
 by_cases p2 : 0 < f2
 rotate_left
 ·rw [hno (by simp [qeu, p2])]; exact Rn.f (by rw [decide_eq_false_iff_not]; omega) (Rn.pure _)
 refine Rn.t (by rw [decide_eq_false_iff_not]; omega) ?_
 by_cases q : f4 = 1 ∨ f4 = 2
 rotate_left
 ·rw [hno (by simp [qeu, q])]
  by_cases q1 : f4 < 1
  ·exact Rn.f (by rw [decide_eq_false_iff_not]; omega) (Rn.pure _)
  ·exact Rn.t (by rw [decide_eq_false_iff_not]; omega) (Rn.f (by rw [decide_eq_false_iff_not]; omega) (Rn.pure _))
 refine Rn.t (by rw [decide_eq_false_iff_not]; omega) (Rn.t (by rw [decide_eq_false_iff_not]; omega) ?_)
 by_cases l1 : 1 ≤ f0.length
 rotate_left
 ·rw [hno (by simp [qeu, l1])]; exact Rn.f (by rw [decide_eq_false_iff_not]; omega) (Rn.pure _)
 refine Rn.t (by rw [decide_eq_false_iff_not]; omega) ?_
 by_cases l2 : f0.length ≤ 32
 rotate_left
 ·rw [hno (by simp [qeu, l2])]; exact Rn.f (by rw [decide_eq_false_iff_not]; omega) (Rn.pure _)
 refine Rn.t (by rw [decide_eq_false_iff_not]; omega) ?_
 by_cases l3 : f1.length ≤ 64
 rotate_left
 ·rw [hno (by simp [qeu, l3])]; exact Rn.f (by rw [decide_eq_false_iff_not]; omega) (Rn.pure _)
 refine Rn.t (by rw [decide_eq_false_iff_not]; omega) ?_
 obtain ⟨x, r, ex⟩ : ∃ x r, f0 = x :: r := by cases f0 with | nil => simp at l1 | cons x r => exact ⟨x, r, rfl⟩
 have ex0 : f0[0]? = some x := by rw [ex]; rfl
 have exh : (f0.map dl).headD [] = dl x := by rw [ex]; rfl
 refine Rn.at ex0 ?_
 by_cases hz : dl x = b0
 rotate_left
 ·rw [hno (by unfold qeu; rw [decide_eq_false (p := (f0.map dl).headD [] = b0) (by rw [exh]; exact hz)]; simp)]
  exact Rn.t (by simp only [Bool.not_eq_true', beq_eq_false_iff_ne, ne_eq]; exact hz) (Rn.pure _)
 refine Rn.f (by simp only [Bool.not_eq_true', beq_eq_false_iff_ne, ne_eq]; exact fun h => h hz) ?_
 obtain ⟨c1, c2, c3⟩ := qno f0 f1 f2 f3 f4 g f1.length 0 [] (by omega) rfl
 rw [List.drop_zero] at c3
 refine Rn.bind c3.diag ?_
 cases hd : f1.all (qeX f0.length f1)
 ·rw [hno (by simp only [qeu, hd]; simp)]
  show Rn (fun k => some c1.1) 90
  rw [c2]; exact Rn.pure _
 obtain ⟨a1, a2, h1⟩ := qmW f0 f1 f2 f3 f4 g f1.length (f1.map fun d => d.2.1)
 show Rn (fun k => Option.bind (qJ k k f1.length 0 f0 f1 f2 f3 f4 (f1.map fun d => d.2.1)) _) _
 refine Rn.bind h1 ?_
 cases hl : f0.all qbV
 ·rw [hno (by simp only [qeu, hl]; simp)]
  show Rn (fun k => some a1.1) 90
  rw [a2]; exact Rn.pure _
 show Rn (fun k => if 0 + f1.length ≤ (f1.map fun d => d.2.1).length then Option.bind (qbK k (List.take f1.length (f1.map fun d => d.2.1))) _ else none) _
 have tk : List.take f1.length (f1.map fun d => d.2.1) = f1.map fun d => d.2.1 := List.take_of_length_le (by rw [List.length_map]; omega)
 rw [tk]
 refine Rn.t (by rw [List.length_map]; omega) (Rn.bind (qkX _ (by rw [List.length_map]; omega)) ?_)
 cases hw : twB (f1.map fun d => d.2.1)
 rotate_left
 ·rw [hno (by simp only [qeu, hw]; simp)]; exact Rn.f (by decide) (Rn.pure _)
 refine Rn.t rfl ?_
 show Rn (fun k => Option.bind (qbK k f0) _) _
 refine Rn.bind (qkX f0 (by omega)) ?_
 cases ht : twB f0
 rotate_left
 ·rw [hno (by simp only [qeu, ht]; simp)]; exact Rn.t rfl (Rn.pure _)
 refine Rn.f (by decide) ?_
 show Rn (fun k => Option.bind (qc1 k f0 f1 f2 f3 f4) _) _
 refine Rn.bind (qsl f0 f1 f2 f3 f4 g) ?_
 have hyes : qeu f0 f1 f2 f3 f4 = true := by
  unfold qeu
  rw [hn, hd, hl, hw, ht, decide_eq_true p2, decide_eq_true q, decide_eq_true (show 1 ≤ f0.length ∧ f0.length ≤ 32 from ⟨l1, l2⟩), decide_eq_true l3, decide_eq_true (show (f0.map dl).headD [] = b0 by rw [exh]; exact hz)]
  rfl
 have hc : chk f0 f1 f2 f3 f4 = if (48 : Int) < (f0.length : Int) - 1 + qfL f1 then 5 else 0 := if_pos hyes
 rw [hc]
 by_cases l4 : (48 : Int) < (f0.length : Int) - 1 + qfL f1
 ·rw [if_pos l4]; exact Rn.t (by rw [decide_eq_true_eq]; exact l4) (Rn.pure _)
 ·rw [if_neg l4]; exact Rn.f (by rw [decide_eq_true_eq]; exact l4) (Rn.pure _)
end
theorem qyQ {α : Type} {f : Nat → Option α} {x : α} (h : ∀ j, f (j + 40) = some x) : Rn f x := Rn.eq 40 fun k hk => by
 obtain ⟨j, rfl⟩ : ∃ j, k = j + 40 := ⟨k - 40, by omega⟩
 exact h j
theorem qpr : Rn (fun k => qfe k) true := qyQ fun j => by kernel_rfl
theorem qps (f0 : List ByteArray) (f1 : List Dv) (f2 f3 f4 : Int) (hl : f1.length ≤ 1000000000000000000) : ∀ (d i : Nat) (n : Int), i + d = f1.length → ∃ o, Rl (fun k q => qaj k q n (i : Int) f0 f1 f2 f3 f4) o := by
 intro d
 induction d with
 | zero =>
  intro i n e
  refine ⟨_, Rl.up (f := fun k q => qaj k q n (i : Int) f0 f1 f2 f3 f4) (r := (n, f0, f1, f2, f3, f4)) ?_⟩
  show Rl (fun k q => qa2 k (qaj k q) _ _ _ _ _ _ _) _
  unfold qa2
  exact Rl.f (by first | omega | (simp only [decide_eq_true_eq, decide_eq_false_iff_not, Int.toNat_natCast, beq_iff_eq, bne_iff_ne, ne_eq, Int.not_lt, Int.not_le, ge_iff_le, gt_iff_lt, beq_eq_false_iff_ne, Nat.zero_add]; omega)) (Rl.pure _)
 | succ d ih =>
  intro i n e
  have hi : i < f1.length := by omega
  have eg : f1[i]? = some f1[i] := List.getElem?_eq_getElem hi
  generalize f1[i] = x at eg
  by_cases c : n < 2000
  ·obtain ⟨o, ho⟩ := ih (i + 1) (IntKind.wrap .i64 (n + (IntKind.wrap .i64 ((IntKind.wrap .i64 ((IntKind.wrap .i64 ((IntKind.wrap .i64 ((IntKind.wrap .i64 ((1 : Int) + (min (2000 : Int) (((List.length x.2.2.1) : Nat) : Int)))) + (min (2000 : Int) (((List.length x.2.2.2.2.2.1.2.1) : Nat) : Int)))) + (min (2000 : Int) (((List.length x.2.2.2.2.2.1.2.2) : Nat) : Int)))) + (min (2000 : Int) (((List.length x.2.2.2.2.2.2.2.2.1) : Nat) : Int)))) + (min (2000 : Int) (((List.length x.2.2.2.2.2.2.2.2.2) : Nat) : Int)))))) (by omega)
   refine ⟨o, Rl.up (f := fun k q => qaj k q n (i : Int) f0 f1 f2 f3 f4) ?_⟩
   show Rl (fun k q => qa2 k (qaj k q) _ _ _ _ _ _ _) _
   unfold qa2
   rw [qf (x := (i : Int) + 1) (by omega)]
   exact Rl.t (by first | omega | (simp only [decide_eq_true_eq, decide_eq_false_iff_not, Int.toNat_natCast, beq_iff_eq, bne_iff_ne, ne_eq, Int.not_lt, Int.not_le, ge_iff_le, gt_iff_lt, beq_eq_false_iff_ne, Nat.zero_add]; omega)) (Rl.t (by first | omega | (simp only [decide_eq_true_eq, decide_eq_false_iff_not, Int.toNat_natCast, beq_iff_eq, bne_iff_ne, ne_eq, Int.not_lt, Int.not_le, ge_iff_le, gt_iff_lt, beq_eq_false_iff_ne, Nat.zero_add]; omega)) (Rl.t (by first | omega | (simp only [decide_eq_true_eq, decide_eq_false_iff_not, Int.toNat_natCast, beq_iff_eq, bne_iff_ne, ne_eq, Int.not_lt, Int.not_le, ge_iff_le, gt_iff_lt, beq_eq_false_iff_ne, Nat.zero_add]; omega)) (Rl.at (by rw [Int.toNat_natCast]; exact eg) ho)))
  ·refine ⟨_, Rl.up (f := fun k q => qaj k q n (i : Int) f0 f1 f2 f3 f4) (r := (n, f0, f1, f2, f3, f4)) ?_⟩
   show Rl (fun k q => qa2 k (qaj k q) _ _ _ _ _ _ _) _
   unfold qa2
   exact Rl.t (by first | omega | (simp only [decide_eq_true_eq, decide_eq_false_iff_not, Int.toNat_natCast, beq_iff_eq, bne_iff_ne, ne_eq, Int.not_lt, Int.not_le, ge_iff_le, gt_iff_lt, beq_eq_false_iff_ne, Nat.zero_add]; omega)) (Rl.f (by first | omega | (simp only [decide_eq_true_eq, decide_eq_false_iff_not, Int.toNat_natCast, beq_iff_eq, bne_iff_ne, ne_eq, Int.not_lt, Int.not_le, ge_iff_le, gt_iff_lt, beq_eq_false_iff_ne, Nat.zero_add]; omega)) (Rl.pure _))
theorem qsm (f0 : List ByteArray) (f1 : List Dv) (f2 f3 f4 : Int) (hl : f1.length ≤ 1000000000000000000) : ∃ b, Rn (fun k => qdI k f0 f1 f2 f3 f4) b := by
 obtain ⟨o, ho⟩ := qps f0 f1 f2 f3 f4 hl f1.length 0 f0.length (by omega)
 refine ⟨_, Rn.up (f := fun k => qdI k f0 f1 f2 f3 f4) (r := decide (o.1 ≥ 2000)) ?_⟩
 show Rn (fun k => qff k f0 f1 f2 f3 f4) _
 unfold qff
 exact Rn.bind ho.diag (Rn.pure _)
end Go.Proofs.YtlnailgfialgnaaGreatDoor.Am
