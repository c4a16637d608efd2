/- The law WaveFlat returns true for every input, and its arguments read as they did. -/
import Derived.Test.YtbhnafdmilfobaaMWaveFlat1
import Derived.Test.YtbhnafdmilfobaaRows
import Derived.WalkKit
import Derived.ProofKit
import Derived.OpenShut
import Derived.ShutString
import Derived.ChangeOld
import Derived.Below
import Derived.SizedLaws
import Derived.Carry

set_option linter.unusedVariables false
set_option linter.unusedSectionVars false
set_option linter.unusedSimpArgs false
set_option maxRecDepth 10000
namespace Go.Proofs.Ytbhnafdmilfobaa.Am
open Go

/-- A loop that looks at each place, and leaves at the first that isn't right. -/
theorem scan {A B : Type} (L s : Nat) (F : Nat → Nat → Int → Option (A ⊕ B)) (b : B) (P : A → Prop) (ok : Nat → Prop)
    (hend : Rl (fun k n => F k n (L : Int)) (.inr b))
    (hgo : ∀ i : Nat, s ≤ i → i < L → ok i → ∀ o, Rl (fun k n => F k n ((i : Int) + 1)) o → Rl (fun k n => F k n (i : Int)) o)
    (hno : ∀ i : Nat, s ≤ i → i < L → ¬ ok i → ∃ a, P a ∧ Rl (fun k n => F k n (i : Int)) (.inl a)) :
    ∀ d i : Nat, s ≤ i → i + d = L → ∃ o, Rl (fun k n => F k n (i : Int)) o ∧ ((∀ j, i ≤ j → j < L → ok j) ∧ o = .inr b ∨ (¬ ∀ j, i ≤ j → j < L → ok j) ∧ ∃ a, P a ∧ o = .inl a) := by
  intro d
  induction d with
  | zero =>
    intro i hs hi
    obtain rfl : i = L := by omega
    exact ⟨_, hend, .inl ⟨fun j h1 h2 => absurd h2 (by omega), rfl⟩⟩
  | succ d ih =>
    intro i hs hi
    by_cases h : ok i
    · obtain ⟨o, h1, h2⟩ := ih (i + 1) (by omega) (by omega)
      refine ⟨o, hgo i hs (by omega) h o h1, ?_⟩
      have e : (∀ j, i + 1 ≤ j → j < L → ok j) ↔ (∀ j, i ≤ j → j < L → ok j) := ⟨fun g j j1 j2 => by
        rcases Nat.lt_or_ge i j with k | k
        · exact g j k j2
        · exact (show i = j by omega) ▸ h, fun g j j1 j2 => g j (by omega) j2⟩
      rwa [e] at h2
    · obtain ⟨a, h1, h2⟩ := hno i hs (by omega) h
      exact ⟨_, h2, .inr ⟨fun g => h (g i (Nat.le_refl _) (by omega)), a, h1, rfl⟩⟩
theorem getD_some {α : Type} {l : List α} {i : Nat} (d : α) (h : i < l.length) : l[i]? = some (l.getD i d) := by
  rw [List.getElem?_eq_getElem h]; simp [List.getD, h]
/-- A right wave. -/
structure OkW (w0 : Int) (w1 : List (Int × Int)) (w2 : List Int) : Prop where
  vals : ∀ j, 0 ≤ j → j < w1.length → okN (w1.getD j (0, 0)).1 (w1.getD j (0, 0)).2 = true
  steps : ∀ j, 0 ≤ j → j < w2.length → 0 ≤ w2.getD j 0 ∧ w2.getD j 0 ≤ 1000000000
  kind : w0 = 1 ∧ w1.length = 1 ∧ w2.length = 0 ∨ w0 = 2 ∧ w1.length = 2 ∧ w2.length = 5 ∧ 1 ≤ w2.getD 4 0 ∧ w2.getD 1 0 + w2.getD 2 0 + w2.getD 3 0 ≤ w2.getD 4 0 ∨
    w0 = 3 ∧ w1.length = w2.length ∧ 1 ≤ w1.length ∧ w1.length ≤ 16 ∧ (∀ j, 1 ≤ j → j < w2.length → w2.getD (j - 1) 0 < w2.getD j 0) ∨ w0 = 4 ∧ 1 ≤ w1.length ∧ w1.length ≤ 16 ∧ w2.length = 0
noncomputable def okW (w0 : Int) (w1 : List (Int × Int)) (w2 : List Int) : Bool := @decide (OkW w0 w1 w2) (Classical.propDecidable _)
theorem okW_iff {w0 : Int} {w1 : List (Int × Int)} {w2 : List Int} : okW w0 w1 w2 = true ↔ OkW w0 w1 w2 := @decide_eq_true_iff _ (Classical.propDecidable _)
theorem okW_f {w0 : Int} {w1 : List (Int × Int)} {w2 : List Int} : okW w0 w1 w2 = false ↔ ¬ OkW w0 w1 w2 := @decide_eq_false_iff_not _ (Classical.propDecidable _)
section
variable (w0 : Int) (w1 : List (Int × Int)) (w2 : List Int) (h1 : w1.length ≤ 1000000000000000000) (h2 : w2.length ≤ 1000000000000000000)
include h1 h2
theorem wvalid0 : ∃ o, Rl (fun k n => Lwave_Valid_0 k n w1 w1.length 0 w0 w1 w2) o ∧ ((∀ j, 0 ≤ j → j < w1.length → okN (w1.getD j (0, 0)).1 (w1.getD j (0, 0)).2 = true) ∧ o = .inr (w0, w1, w2) ∨ (¬ ∀ j, 0 ≤ j → j < w1.length → okN (w1.getD j (0, 0)).1 (w1.getD j (0, 0)).2 = true) ∧ ∃ a : Bool × Int × List (Int × Int) × List Int × Int × Int, a.1 = false ∧ o = .inl a) := by
  refine scan w1.length 0 (fun k n i => Lwave_Valid_0 k n w1 w1.length i w0 w1 w2) (w0, w1, w2) (fun a => a.1 = false) (fun j => okN (w1.getD j (0, 0)).1 (w1.getD j (0, 0)).2 = true) ?_ ?_ ?_ w1.length 0 (by omega) (by omega)
  · refine Rl.up (f := fun k n => Lwave_Valid_0 k n w1 w1.length w1.length w0 w1 w2) (Rl.of 0 fun k n _ => ?_)
    show Lwave_Valid_0s k (Lwave_Valid_0 k n) _ _ _ _ _ _ = _
    unfold Lwave_Valid_0s
    exact if_neg (by simp)
  · intro i hs hi hok o ho
    refine Rl.up (f := fun k n => Lwave_Valid_0 k n w1 w1.length i w0 w1 w2) ?_
    show Rl (fun k n => Lwave_Valid_0s k (Lwave_Valid_0 k n) _ _ _ _ _ _) _
    unfold Lwave_Valid_0s
    refine Rl.t (decide_eq_true (by omega)) (Rl.t (by omega) (Rl.at (getD_some (0, 0) (by omega)) (Rl.bind (numValid_ev _ _) (Rl.f (by rw [Int.toNat_natCast, hok]; decide) ?_))))
    rw [wrap_i64 (by omega)]
    exact ho
  · intro i hs hi hok
    refine ⟨(false, w0, w1, w2, (w1.getD i (0, 0)).1, (w1.getD i (0, 0)).2), rfl, Rl.up (f := fun k n => Lwave_Valid_0 k n w1 w1.length i w0 w1 w2) ?_⟩
    show Rl (fun k n => Lwave_Valid_0s k (Lwave_Valid_0 k n) _ _ _ _ _ _) _
    unfold Lwave_Valid_0s
    refine Rl.t (decide_eq_true (by omega)) (Rl.t (by omega) (Rl.at (getD_some (0, 0) (by omega)) (Rl.bind (numValid_ev _ _) (Rl.t (by rw [Int.toNat_natCast, Bool.eq_false_iff.2 hok]; rfl) (Rl.pure _)))))
theorem wvalid2 : ∃ o, Rl (fun k n => Lwave_Valid_2 k n w2 w2.length 0 w0 w1 w2) o ∧ ((∀ j, 0 ≤ j → j < w2.length → 0 ≤ w2.getD j 0 ∧ w2.getD j 0 ≤ 1000000000) ∧ o = .inr (w0, w1, w2) ∨ (¬ ∀ j, 0 ≤ j → j < w2.length → 0 ≤ w2.getD j 0 ∧ w2.getD j 0 ≤ 1000000000) ∧ ∃ a : Bool × Int × List (Int × Int) × List Int, a.1 = false ∧ o = .inl a) := by
  refine scan w2.length 0 (fun k n i => Lwave_Valid_2 k n w2 w2.length i w0 w1 w2) (w0, w1, w2) (fun a => a.1 = false) (fun j => 0 ≤ w2.getD j 0 ∧ w2.getD j 0 ≤ 1000000000) ?_ ?_ ?_ w2.length 0 (by omega) (by omega)
  · refine Rl.up (f := fun k n => Lwave_Valid_2 k n w2 w2.length w2.length w0 w1 w2) (Rl.of 0 fun k n _ => ?_)
    show Lwave_Valid_2s k (Lwave_Valid_2 k n) _ _ _ _ _ _ = _
    unfold Lwave_Valid_2s
    exact if_neg (by simp)
  · intro i hs hi hok o ho
    refine Rl.up (f := fun k n => Lwave_Valid_2 k n w2 w2.length i w0 w1 w2) ?_
    show Rl (fun k n => Lwave_Valid_2s k (Lwave_Valid_2 k n) _ _ _ _ _ _) _
    unfold Lwave_Valid_2s
    refine Rl.t (decide_eq_true (by omega)) (Rl.t (by omega) (Rl.at (getD_some 0 (by omega)) (Rl.t (decide_eq_false (by rw [Int.toNat_natCast]; omega)) (Rl.f (by rw [decide_eq_true_eq, Int.toNat_natCast]; omega) ?_))))
    rw [wrap_i64 (by omega)]
    exact ho
  · intro i hs hi hok
    refine ⟨(false, w0, w1, w2), rfl, Rl.up (f := fun k n => Lwave_Valid_2 k n w2 w2.length i w0 w1 w2) ?_⟩
    show Rl (fun k n => Lwave_Valid_2s k (Lwave_Valid_2 k n) _ _ _ _ _ _) _
    unfold Lwave_Valid_2s
    refine Rl.t (decide_eq_true (by omega)) (Rl.t (by omega) (Rl.at (getD_some 0 (by omega)) ?_))
    rw [Int.toNat_natCast]
    by_cases h0 : w2.getD i 0 < 0
    · exact Rl.f (by rw [decide_eq_false_iff_not]; omega) (Rl.pure _)
    · exact Rl.t (decide_eq_false h0) (Rl.t (decide_eq_true (by omega)) (Rl.pure _))
theorem wvalid5 (hlen : 1 ≤ w2.length) : ∃ o, Rl (fun k n => Lwave_Valid_5 k n 1 w0 w1 w2) o ∧ ((∀ j, 1 ≤ j → j < w2.length → w2.getD (j - 1) 0 < w2.getD j 0) ∧ o = .inr (w0, w1, w2) ∨ (¬ ∀ j, 1 ≤ j → j < w2.length → w2.getD (j - 1) 0 < w2.getD j 0) ∧ ∃ a : Bool × Int × List (Int × Int) × List Int, a.1 = false ∧ o = .inl a) := by
  refine scan w2.length 1 (fun k n i => Lwave_Valid_5 k n i w0 w1 w2) (w0, w1, w2) (fun a => a.1 = false) (fun j => w2.getD (j - 1) 0 < w2.getD j 0) ?_ ?_ ?_ (w2.length - 1) 1 (by omega) (by omega)
  · refine Rl.up (f := fun k n => Lwave_Valid_5 k n w2.length w0 w1 w2) (Rl.of 0 fun k n _ => ?_)
    show Lwave_Valid_5s k (Lwave_Valid_5 k n) _ _ _ _ = _
    unfold Lwave_Valid_5s
    exact if_neg (by simp)
  · intro i hs hi hok o ho
    refine Rl.up (f := fun k n => Lwave_Valid_5 k n i w0 w1 w2) ?_
    show Rl (fun k n => Lwave_Valid_5s k (Lwave_Valid_5 k n) _ _ _ _) _
    unfold Lwave_Valid_5s
    have e1 : (IntKind.i64.wrap ((i : Int) - 1)) = ((i - 1 : Nat) : Int) := by rw [wrap_i64 (by omega)]; omega
    rw [e1]
    refine Rl.t (decide_eq_true (by omega)) (Rl.t (by omega) (Rl.at (getD_some 0 (by omega)) (Rl.t (by omega) (Rl.at (getD_some 0 (by omega)) (Rl.f (by rw [decide_eq_true_eq, Int.toNat_natCast, Int.toNat_natCast]; omega) ?_)))))
    rw [wrap_i64 (by omega)]
    exact ho
  · intro i hs hi hok
    refine ⟨(false, w0, w1, w2), rfl, Rl.up (f := fun k n => Lwave_Valid_5 k n i w0 w1 w2) ?_⟩
    show Rl (fun k n => Lwave_Valid_5s k (Lwave_Valid_5 k n) _ _ _ _) _
    unfold Lwave_Valid_5s
    have e1 : (IntKind.i64.wrap ((i : Int) - 1)) = ((i - 1 : Nat) : Int) := by rw [wrap_i64 (by omega)]; omega
    rw [e1]
    exact Rl.t (decide_eq_true (by omega)) (Rl.t (by omega) (Rl.at (getD_some 0 (by omega)) (Rl.t (by omega) (Rl.at (getD_some 0 (by omega)) (Rl.t (decide_eq_true (by rw [Int.toNat_natCast, Int.toNat_natCast]; omega)) (Rl.pure _))))))
theorem rvalid0 : ∃ o, Rl (fun k n => Lshuntref04_Valid_0 k n 0 w0 w1 w2) o ∧ ((∀ j, 0 ≤ j → j < w1.length → okN (w1.getD j (0, 0)).1 (w1.getD j (0, 0)).2 = true) ∧ o = .inr (w0, w1, w2) ∨ (¬ ∀ j, 0 ≤ j → j < w1.length → okN (w1.getD j (0, 0)).1 (w1.getD j (0, 0)).2 = true) ∧ ∃ a : Bool × Int × List (Int × Int) × List Int, a.1 = false ∧ o = .inl a) := by
  refine scan w1.length 0 (fun k n i => Lshuntref04_Valid_0 k n i w0 w1 w2) (w0, w1, w2) (fun a => a.1 = false) (fun j => okN (w1.getD j (0, 0)).1 (w1.getD j (0, 0)).2 = true) ?_ ?_ ?_ w1.length 0 (by omega) (by omega)
  · refine Rl.up (f := fun k n => Lshuntref04_Valid_0 k n w1.length w0 w1 w2) (Rl.of 0 fun k n _ => ?_)
    show Lshuntref04_Valid_0s k (Lshuntref04_Valid_0 k n) _ _ _ _ = _
    unfold Lshuntref04_Valid_0s
    exact if_neg (by simp)
  · intro i hs hi hok o ho
    refine Rl.up (f := fun k n => Lshuntref04_Valid_0 k n i w0 w1 w2) ?_
    show Rl (fun k n => Lshuntref04_Valid_0s k (Lshuntref04_Valid_0 k n) _ _ _ _) _
    unfold Lshuntref04_Valid_0s
    refine Rl.t (decide_eq_true (by omega)) (Rl.t (by omega) (Rl.at (getD_some (0, 0) (by omega)) (Rl.bind (refValid_ev _ _) (Rl.f (by rw [Int.toNat_natCast, hok]; decide) ?_))))
    rw [wrap_i64 (by omega)]
    exact ho
  · intro i hs hi hok
    refine ⟨(false, w0, w1, w2), rfl, Rl.up (f := fun k n => Lshuntref04_Valid_0 k n i w0 w1 w2) ?_⟩
    show Rl (fun k n => Lshuntref04_Valid_0s k (Lshuntref04_Valid_0 k n) _ _ _ _) _
    unfold Lshuntref04_Valid_0s
    refine Rl.t (decide_eq_true (by omega)) (Rl.t (by omega) (Rl.at (getD_some (0, 0) (by omega)) (Rl.bind (refValid_ev _ _) (Rl.t (by rw [Int.toNat_natCast, Bool.eq_false_iff.2 hok]; rfl) (Rl.pure _)))))
theorem rvalid2 : ∃ o, Rl (fun k n => Lshuntref04_Valid_2 k n 0 w0 w1 w2) o ∧ ((∀ j, 0 ≤ j → j < w2.length → 0 ≤ w2.getD j 0 ∧ w2.getD j 0 ≤ 1000000000) ∧ o = .inr (w0, w1, w2) ∨ (¬ ∀ j, 0 ≤ j → j < w2.length → 0 ≤ w2.getD j 0 ∧ w2.getD j 0 ≤ 1000000000) ∧ ∃ a : Bool × Int × List (Int × Int) × List Int, a.1 = false ∧ o = .inl a) := by
  refine scan w2.length 0 (fun k n i => Lshuntref04_Valid_2 k n i w0 w1 w2) (w0, w1, w2) (fun a => a.1 = false) (fun j => 0 ≤ w2.getD j 0 ∧ w2.getD j 0 ≤ 1000000000) ?_ ?_ ?_ w2.length 0 (by omega) (by omega)
  · refine Rl.up (f := fun k n => Lshuntref04_Valid_2 k n w2.length w0 w1 w2) (Rl.of 0 fun k n _ => ?_)
    show Lshuntref04_Valid_2s k (Lshuntref04_Valid_2 k n) _ _ _ _ = _
    unfold Lshuntref04_Valid_2s
    exact if_neg (by simp)
  · intro i hs hi hok o ho
    refine Rl.up (f := fun k n => Lshuntref04_Valid_2 k n i w0 w1 w2) ?_
    show Rl (fun k n => Lshuntref04_Valid_2s k (Lshuntref04_Valid_2 k n) _ _ _ _) _
    unfold Lshuntref04_Valid_2s
    refine Rl.t (decide_eq_true (by omega)) (Rl.t (by omega) (Rl.at (getD_some 0 (by omega)) (Rl.t (decide_eq_false (by rw [Int.toNat_natCast]; omega)) (Rl.t (by omega) (Rl.at (getD_some 0 (by omega)) (Rl.f (by rw [decide_eq_true_eq, Int.toNat_natCast]; omega) ?_))))))
    rw [wrap_i64 (by omega)]
    exact ho
  · intro i hs hi hok
    refine ⟨(false, w0, w1, w2), rfl, Rl.up (f := fun k n => Lshuntref04_Valid_2 k n i w0 w1 w2) ?_⟩
    show Rl (fun k n => Lshuntref04_Valid_2s k (Lshuntref04_Valid_2 k n) _ _ _ _) _
    unfold Lshuntref04_Valid_2s
    refine Rl.t (decide_eq_true (by omega)) (Rl.t (by omega) (Rl.at (getD_some 0 (by omega)) ?_))
    rw [Int.toNat_natCast]
    by_cases h0 : w2.getD i 0 < 0
    · exact Rl.f (by rw [decide_eq_false_iff_not]; omega) (Rl.pure _)
    · exact Rl.t (decide_eq_false h0) (Rl.t (by omega) (Rl.at (getD_some 0 (by omega)) (Rl.t (decide_eq_true (by omega)) (Rl.pure _))))
end
theorem rising_ev (w2 : List Int) (h2 : w2.length ≤ 1000000000000000000) (hlen : 1 ≤ w2.length) : ∃ b, Rn (fun k => Fshuntref04_rising k w2) b ∧ (b = true ↔ ∀ j, 1 ≤ j → j < w2.length → w2.getD (j - 1) 0 < w2.getD j 0) := by
  obtain ⟨o, ho, h⟩ : ∃ o, Rl (fun k n => Lshuntref04_rising_0 k n w2 1) o ∧ ((∀ j, 1 ≤ j → j < w2.length → w2.getD (j - 1) 0 < w2.getD j 0) ∧ o = .inr () ∨ (¬ ∀ j, 1 ≤ j → j < w2.length → w2.getD (j - 1) 0 < w2.getD j 0) ∧ ∃ a : Bool, a = false ∧ o = .inl a) := by
    refine scan w2.length 1 (fun k n i => Lshuntref04_rising_0 k n w2 i) () (fun a => a = false) (fun j => w2.getD (j - 1) 0 < w2.getD j 0) ?_ ?_ ?_ (w2.length - 1) 1 (by omega) (by omega)
    · refine Rl.up (f := fun k n => Lshuntref04_rising_0 k n w2 w2.length) (Rl.of 0 fun k n _ => ?_)
      show Lshuntref04_rising_0s k (Lshuntref04_rising_0 k n) _ _ = _
      unfold Lshuntref04_rising_0s
      exact if_neg (by simp)
    · intro i hs hi hok o ho
      refine Rl.up (f := fun k n => Lshuntref04_rising_0 k n w2 i) ?_
      show Rl (fun k n => Lshuntref04_rising_0s k (Lshuntref04_rising_0 k n) _ _) _
      unfold Lshuntref04_rising_0s
      have e1 : (IntKind.i64.wrap ((i : Int) - 1)) = ((i - 1 : Nat) : Int) := by rw [wrap_i64 (by omega)]; omega
      rw [e1]
      refine Rl.t (decide_eq_true (by omega)) (Rl.t (by omega) (Rl.at (getD_some 0 (by omega)) (Rl.t (by omega) (Rl.at (getD_some 0 (by omega)) (Rl.f (by rw [decide_eq_true_eq, Int.toNat_natCast, Int.toNat_natCast]; omega) ?_)))))
      rw [wrap_i64 (by omega)]
      exact ho
    · intro i hs hi hok
      refine ⟨false, rfl, Rl.up (f := fun k n => Lshuntref04_rising_0 k n w2 i) ?_⟩
      show Rl (fun k n => Lshuntref04_rising_0s k (Lshuntref04_rising_0 k n) _ _) _
      unfold Lshuntref04_rising_0s
      have e1 : (IntKind.i64.wrap ((i : Int) - 1)) = ((i - 1 : Nat) : Int) := by rw [wrap_i64 (by omega)]; omega
      rw [e1]
      exact Rl.t (decide_eq_true (by omega)) (Rl.t (by omega) (Rl.at (getD_some 0 (by omega)) (Rl.t (by omega) (Rl.at (getD_some 0 (by omega)) (Rl.t (decide_eq_true (by rw [Int.toNat_natCast, Int.toNat_natCast]; omega)) (Rl.pure _))))))
  rcases h with ⟨h, rfl⟩ | ⟨h, a, ha, rfl⟩
  · exact ⟨true, Rn.up (f := fun k => Fshuntref04_rising k w2) (Rn.bind ho.diag (Rn.pure _)), by simp only [true_iff]; exact h⟩
  · subst ha
    exact ⟨false, Rn.up (f := fun k => Fshuntref04_rising k w2) (Rn.bind ho.diag (Rn.pure _)), by simp only [Bool.false_eq_true, false_iff]; exact h⟩
end Go.Proofs.Ytbhnafdmilfobaa.Am

/- Plain reckoning: which waves are right, the whole. -/
set_option linter.unusedVariables false
set_option linter.unusedSectionVars false
set_option linter.unusedSimpArgs false
set_option maxRecDepth 10000
namespace Go.Proofs.Ytbhnafdmilfobaa.Am
open Go

theorem okW_eq {w0 : Int} {w1 : List (Int × Int)} {w2 : List Int} {b : Bool} (h : b = true ↔ OkW w0 w1 w2) : b = okW w0 w1 w2 := Bool.eq_iff_iff.2 (h.trans okW_iff.symm)
section
variable (w0 : Int) (w1 : List (Int × Int)) (w2 : List Int) (h1 : w1.length ≤ 1000000000000000000) (h2 : w2.length ≤ 1000000000000000000)
include h1 h2
theorem waveValid_ev : Rn (fun k => Fwave_Valid k w0 w1 w2) (okW w0 w1 w2) := by
  refine Rn.up (f := fun k => Fwave_Valid k w0 w1 w2) ?_
  show Rn (fun k => bwave_Valid k w0 w1 w2) _
  unfold bwave_Valid
  obtain ⟨o, ho, hv⟩ := wvalid0 w0 w1 w2 h1 h2
  refine Rn.bind ho.diag ?_
  rcases hv with ⟨hv, rfl⟩ | ⟨hv, a, ha, rfl⟩
  case inr =>
    have : okW w0 w1 w2 = false := okW_f.2 fun h => hv h.vals
    rw [this, ← ha]
    exact Rn.pure _
  show Rn (fun k => Option.bind (Lwave_Valid_2 k k w2 w2.length 0 w0 w1 w2) _) _
  obtain ⟨o, ho, hs⟩ := wvalid2 w0 w1 w2 h1 h2
  refine Rn.bind ho.diag ?_
  rcases hs with ⟨hs, rfl⟩ | ⟨hs, a, ha, rfl⟩
  case inr =>
    have : okW w0 w1 w2 = false := okW_f.2 fun h => hs h.steps
    rw [this, ← ha]
    exact Rn.pure _
  have hk : OkW w0 w1 w2 ↔ _ := ⟨fun h => h.kind, fun h => ⟨hv, hs, h⟩⟩
  by_cases k1 : w0 = 1
  · refine Rn.t (by simp [k1]) (Rn.eq 0 fun k _ => ?_)
    dsimp only
    repeat' split
    all_goals refine congrArg some (okW_eq (Iff.trans ?_ hk.symm))
    all_goals simp only [beq_iff_eq, decide_eq_true_eq, Bool.false_eq_true, false_iff, Bool.not_eq_true] at *
    all_goals omega
  refine Rn.f (by simpa using k1) ?_
  by_cases k2 : w0 = 2
  · refine Rn.t (by simp [k2]) ?_
    by_cases l1 : w1.length = 2
    · refine Rn.t (by simp [l1]) ?_
      by_cases l2 : w2.length = 5
      · refine Rn.t (by simp [l2]) ?_
        refine Rn.at (getD_some 0 (by show 4 < w2.length; omega)) ?_
        by_cases l3 : w2.getD 4 0 ≥ 1
        · refine Rn.t (decide_eq_true l3) (Rn.at (getD_some 0 (by show 1 < w2.length; omega)) (Rn.at (getD_some 0 (by show 2 < w2.length; omega)) (Rn.at (getD_some 0 (by show 3 < w2.length; omega)) (Rn.at (getD_some 0 (by show 4 < w2.length; omega)) (Rn.const (congrArg some (okW_eq (Iff.trans ?_ hk.symm))))))))
          have s1 := hs 1 (by omega) (by omega)
          have s2 := hs 2 (by omega) (by omega)
          have s3 := hs 3 (by omega) (by omega)
          dsimp only
          rw [wrap_i64 (x := w2.getD 1 0 + w2.getD 2 0) (by omega), wrap_i64 (by omega), decide_eq_true_eq]
          constructor
          · intro h; exact .inr (.inl ⟨k2, l1, l2, l3, h⟩)
          · rintro (⟨a, _⟩ | ⟨_, _, _, _, h⟩ | ⟨a, _⟩ | ⟨a, _⟩) <;> omega
        · refine Rn.f (by rw [decide_eq_true_eq]; exact l3) (Rn.const (congrArg some (okW_eq (Iff.trans ?_ hk.symm))))
          simp only [Bool.false_eq_true, false_iff]
          omega
      · refine Rn.f (by simpa using (by omega : ¬ (w2.length : Int) = 5)) (Rn.const (congrArg some (okW_eq (Iff.trans ?_ hk.symm))))
        simp only [Bool.false_eq_true, false_iff]
        omega
    · refine Rn.f (by simpa using (by omega : ¬ (w1.length : Int) = 2)) (Rn.const (congrArg some (okW_eq (Iff.trans ?_ hk.symm))))
      simp only [Bool.false_eq_true, false_iff]
      omega
  refine Rn.f (by simpa using k2) ?_
  by_cases k3 : w0 = 3
  · refine Rn.t (by simp [k3]) ?_
    by_cases l0 : w2.length = 0
    · have e5 : Rn (fun k => Lwave_Valid_5 k k 1 w0 w1 w2) (.inr (w0, w1, w2)) := Rn.eq 1 fun k hk => by
        obtain ⟨k, rfl⟩ : ∃ m, k = m + 1 := ⟨k - 1, by omega⟩
        show Lwave_Valid_5s (k + 1) (Lwave_Valid_5 (k + 1) k) _ _ _ _ = _
        unfold Lwave_Valid_5s
        exact if_neg (by rw [l0]; decide)
      refine Rn.bind e5 (Rn.eq 0 fun k _ => ?_)
      show (if _ then _ else _) = _
      dsimp only
      repeat' split
      all_goals refine congrArg some (okW_eq (Iff.trans ?_ hk.symm))
      all_goals simp only [beq_iff_eq, decide_eq_true_eq, Bool.false_eq_true, false_iff, Bool.not_eq_true] at *
      all_goals omega
    obtain ⟨o, ho, h5⟩ := wvalid5 w0 w1 w2 h1 h2 (by omega)
    refine Rn.bind ho.diag ?_
    rcases h5 with ⟨h5, rfl⟩ | ⟨h5, a, ha, rfl⟩
    case inr =>
      have : okW w0 w1 w2 = false := okW_f.2 fun h => by
        rcases h.kind with g | g | g | g
        · omega
        · omega
        · exact h5 g.2.2.2.2
        · omega
      rw [this, ← ha]
      exact Rn.pure _
    refine Rn.eq 0 fun k _ => ?_
    show (if _ then _ else _) = _
    dsimp only
    have hk3 : OkW w0 w1 w2 ↔ (w1.length = w2.length ∧ 1 ≤ w1.length ∧ w1.length ≤ 16) := hk.trans ⟨fun g => by
      rcases g with g | g | g | g
      · omega
      · omega
      · exact ⟨g.2.1, g.2.2.1, g.2.2.2.1⟩
      · omega, fun g => .inr (.inr (.inl ⟨k3, g.1, g.2.1, g.2.2, h5⟩))⟩
    repeat' split
    all_goals refine congrArg some (okW_eq (Iff.trans ?_ hk3.symm))
    all_goals simp only [beq_iff_eq, decide_eq_true_eq, Bool.false_eq_true, false_iff, Bool.not_eq_true] at *
    all_goals omega
  refine Rn.f (by simpa using k3) ?_
  by_cases k4 : w0 = 4
  · refine Rn.t (by simp [k4]) (Rn.eq 0 fun k _ => ?_)
    dsimp only
    repeat' split
    all_goals refine congrArg some (okW_eq (Iff.trans ?_ hk.symm))
    all_goals simp only [beq_iff_eq, decide_eq_true_eq, Bool.false_eq_true, false_iff, Bool.not_eq_true] at *
    all_goals omega
  refine Rn.f (by simpa using k4) (Rn.const (congrArg some (okW_eq (Iff.trans ?_ hk.symm))))
  simp only [Bool.false_eq_true, false_iff]
  omega
theorem waveRef_ev : Rn (fun k => Fshuntref04_Valid k w0 w1 w2) (okW w0 w1 w2) := by
  refine Rn.up (f := fun k => Fshuntref04_Valid k w0 w1 w2) ?_
  show Rn (fun k => bshuntref04_Valid k w0 w1 w2) _
  unfold bshuntref04_Valid
  obtain ⟨o, ho, hv⟩ := rvalid0 w0 w1 w2 h1 h2
  refine Rn.bind ho.diag ?_
  rcases hv with ⟨hv, rfl⟩ | ⟨hv, a, ha, rfl⟩
  case inr =>
    have : okW w0 w1 w2 = false := okW_f.2 fun h => hv h.vals
    rw [this, ← ha]
    exact Rn.pure _
  show Rn (fun k => Option.bind (Lshuntref04_Valid_2 k k 0 w0 w1 w2) _) _
  obtain ⟨o, ho, hs⟩ := rvalid2 w0 w1 w2 h1 h2
  refine Rn.bind ho.diag ?_
  rcases hs with ⟨hs, rfl⟩ | ⟨hs, a, ha, rfl⟩
  case inr =>
    have : okW w0 w1 w2 = false := okW_f.2 fun h => hs h.steps
    rw [this, ← ha]
    exact Rn.pure _
  have hk : OkW w0 w1 w2 ↔ _ := ⟨fun h => h.kind, fun h => ⟨hv, hs, h⟩⟩
  by_cases k1 : w0 = 1
  · refine Rn.t (by simp [k1]) (Rn.eq 0 fun k _ => ?_)
    dsimp only
    repeat' split
    all_goals refine congrArg some (okW_eq (Iff.trans ?_ hk.symm))
    all_goals simp only [beq_iff_eq, decide_eq_true_eq, Bool.false_eq_true, false_iff, Bool.not_eq_true] at *
    all_goals omega
  refine Rn.f (by simpa using k1) ?_
  by_cases k2 : w0 = 2
  · refine Rn.t (by simp [k2]) ?_
    by_cases l1 : w1.length = 2
    · refine Rn.t (by simp [l1]) ?_
      by_cases l2 : w2.length = 5
      · refine Rn.t (by simp [l2]) ?_
        refine Rn.at (getD_some 0 (by show 4 < w2.length; omega)) ?_
        by_cases l3 : w2.getD 4 0 > 0
        · refine Rn.t (decide_eq_true l3) (Rn.at (getD_some 0 (by show 1 < w2.length; omega)) (Rn.at (getD_some 0 (by show 2 < w2.length; omega)) (Rn.at (getD_some 0 (by show 3 < w2.length; omega)) (Rn.at (getD_some 0 (by show 4 < w2.length; omega)) (Rn.const (congrArg some (okW_eq (Iff.trans ?_ hk.symm))))))))
          have s1 := hs 1 (by omega) (by omega)
          have s2 := hs 2 (by omega) (by omega)
          have s3 := hs 3 (by omega) (by omega)
          dsimp only
          rw [wrap_i64 (x := w2.getD 1 0 + w2.getD 2 0) (by omega), wrap_i64 (by omega), decide_eq_true_eq]
          constructor
          · intro h; exact .inr (.inl ⟨k2, l1, l2, l3, h⟩)
          · rintro (⟨a, _⟩ | ⟨_, _, _, _, h⟩ | ⟨a, _⟩ | ⟨a, _⟩) <;> omega
        · refine Rn.f (by rw [decide_eq_true_eq]; exact l3) (Rn.const (congrArg some (okW_eq (Iff.trans ?_ hk.symm))))
          simp only [Bool.false_eq_true, false_iff]
          omega
      · refine Rn.f (by simpa using (by omega : ¬ (w2.length : Int) = 5)) (Rn.const (congrArg some (okW_eq (Iff.trans ?_ hk.symm))))
        simp only [Bool.false_eq_true, false_iff]
        omega
    · refine Rn.f (by simpa using (by omega : ¬ (w1.length : Int) = 2)) (Rn.const (congrArg some (okW_eq (Iff.trans ?_ hk.symm))))
      simp only [Bool.false_eq_true, false_iff]
      omega
  refine Rn.f (by simpa using k2) ?_
  by_cases k3 : w0 = 3
  · refine Rn.t (by simp [k3]) ?_
    by_cases l0 : w1.length = w2.length ∧ 1 ≤ w1.length ∧ w1.length ≤ 16
    · refine Rn.t (by rw [beq_iff_eq]; show (w1.length : Int) = w2.length; omega) (Rn.t (decide_eq_true (by show (w1.length : Int) ≥ 1; omega)) (Rn.t (decide_eq_true (by show (w1.length : Int) ≤ 16; omega)) ?_))
      obtain ⟨b, hb, h5⟩ := rising_ev w2 h2 (by omega)
      have : b = okW w0 w1 w2 := okW_eq (h5.trans (Iff.trans ⟨fun g => .inr (.inr (.inl ⟨k3, l0.1, l0.2.1, l0.2.2, g⟩)), fun g => by
        rcases g with g | g | g | g
        · omega
        · omega
        · exact g.2.2.2.2
        · omega⟩ hk.symm))
      rw [← this]
      exact Rn.bind hb (Rn.pure _)
    · have : okW w0 w1 w2 = false := okW_f.2 fun h => by have := h.kind; omega
      rw [this]
      by_cases c1 : w1.length = w2.length
      · refine Rn.t (by rw [beq_iff_eq]; show (w1.length : Int) = w2.length; omega) ?_
        by_cases c2 : 1 ≤ w1.length
        · refine Rn.t (decide_eq_true (by show (w1.length : Int) ≥ 1; omega)) (Rn.f (by rw [decide_eq_true_eq]; show ¬ (w1.length : Int) ≤ 16; omega) (Rn.pure _))
        · exact Rn.f (by rw [decide_eq_true_eq]; show ¬ (w1.length : Int) ≥ 1; omega) (Rn.pure _)
      · exact Rn.f (by rw [beq_iff_eq]; show ¬ (w1.length : Int) = w2.length; omega) (Rn.pure _)
  refine Rn.f (by simpa using k3) ?_
  by_cases k4 : w0 = 4
  · refine Rn.t (by simp [k4]) (Rn.eq 0 fun k _ => ?_)
    dsimp only
    repeat' split
    all_goals refine congrArg some (okW_eq (Iff.trans ?_ hk.symm))
    all_goals simp only [beq_iff_eq, decide_eq_true_eq, Bool.false_eq_true, false_iff, Bool.not_eq_true] at *
    all_goals omega
  refine Rn.f (by simpa using k4) (Rn.const (congrArg some (okW_eq (Iff.trans ?_ hk.symm))))
  simp only [Bool.false_eq_true, false_iff]
  omega
end
end Go.Proofs.Ytbhnafdmilfobaa.Am

/- Plain reckoning: what a wave says. -/
set_option linter.unusedVariables false
set_option linter.unusedSectionVars false
set_option linter.unusedSimpArgs false
set_option maxRecDepth 10000
namespace Go.Proofs.Ytbhnafdmilfobaa.Am
open Go

/-- Between a and b, k of n parts along. -/
def mixQ (a b : Rat) (k n : Int) : Rat := (b - a) * Rat.divInt k n + a
theorem between_ev {a0 a1 b0 b1 : Int} (ha : okN a0 a1 = true) (hb : okN b0 b1 = true) (k0 n : Int) (hk : -9223372036854775808 ≤ k0 ∧ k0 ≤ 9223372036854775807) (hn : -9223372036854775808 ≤ n ∧ n ≤ 9223372036854775807) (h0 : n ≠ 0) :
    ∃ s p t r, Rn (fun k => Fwave_between k a0 a1 b0 b1 k0 n) (s, p, t, r) ∧ Fr s p t r (mixQ (numQ a0 a1) (numQ b0 b1) k0 n) ∧ p.length ≤ 40 ∧ r.length ≤ 40 := by
  obtain ⟨s1, p1, t1, r1, a1', a2, a3, a4⟩ := wvalue_ev ha
  obtain ⟨s2, p2, t2, r2, b1', b2, b3, b4⟩ := wvalue_ev hb
  obtain ⟨s3, p3, t3, r3, c1, c2, c3, c4⟩ := rSub_ev false false b2 a2 (by omega) (by omega) (by omega) (by omega)
  obtain ⟨s4, p4, t4, r4, d1, d2, d3, d4⟩ := NewRat_ev k0 n hk hn h0
  obtain ⟨s5, p5, t5, r5, e1, e2, e3, e4⟩ := rMulw_ev c2 d2 (by omega) (by omega) (by omega) (by omega)
  obtain ⟨s6, p6, t6, r6, f1, f2, f3, f4⟩ := rAddw_ev e2 a2 (by omega) (by omega) (by omega) (by omega)
  exact ⟨s6, p6, t6, r6, Rn.up (f := fun k => Fwave_between k a0 a1 b0 b1 k0 n) (Rn.bind a1' (Rn.bind b1' (Rn.bind c1 (Rn.bind d1 (Rn.bind e1 (Rn.bind f1 (Rn.pure _))))))), f2, by omega, by omega⟩
theorem grid_end {x0 x2 : Bool} {x1 x3 : List Int} {q : Rat} (hx : Fr x0 x1 x2 x3 q) (l1 : x1.length ≤ 40) (l3 : x3.length ≤ 40) :
    Rn (fun k => Option.bind (Fbig_NewRat k 1000000000 1) fun r2 => Option.bind (Fbig_Rat_Mul_wqk k x0 x1 x2 x3 r2.1 r2.2.1 r2.2.2.1 r2.2.2.2) fun r3 => Option.bind (Fwide_Frac_plq k r3.1 r3.2.1 r3.2.2.1 r3.2.2.2.1) fun r4 => Option.bind (Frat_Round k r4.1 r4.2.1 r4.2.2.1 r4.2.2.2.1) fun r5 => some (r5.1, r5.2)) (gridR q) := by
  obtain ⟨s1, p1, t1, r1, b1, b2, b3, b4⟩ := NewRat_ev 1000000000 1 (by omega) (by omega) (by omega)
  obtain ⟨s2, p2, t2, r2, c1, c2, c3, c4⟩ := rMulw_ev hx b2 (by omega) (by omega) (by omega) (by omega)
  exact Rn.bind b1 (Rn.bind c1 (Rn.bind (wFrac_ev c2 (show p2.length ≤ 1000000 by omega) (show r2.length ≤ 1000000 by omega)) (Rn.bind (Round_ev c2 (show p2.length ≤ 72 by omega) (show r2.length ≤ 72 by omega)) (Rn.pure _))))

/-- What a pulse says. -/
def pulseQ (lo hi : Rat) (s0 s1 s2 s3 s4 step : Int) : Rat :=
  if step < s0 then lo else if (step - s0) % s4 < s1 then mixQ lo hi ((step - s0) % s4) s1 else if (step - s0) % s4 < s1 + s2 then hi
  else if (step - s0) % s4 < s1 + s2 + s3 then mixQ hi lo ((step - s0) % s4 - s1 - s2) s3 else lo
/-- How many steps stand at the beginning that are not above. -/
def upI (step : Int) : List Int → Nat
  | [] => 0
  | x :: l => if x ≤ step then upI step l + 1 else 0
def valQ (w1 : List (Int × Int)) (j : Nat) : Rat := numQ (w1.getD j (0, 0)).1 (w1.getD j (0, 0)).2
def pwlQ (w1 : List (Int × Int)) (w2 : List Int) (step : Int) (i : Nat) : Rat :=
  if i = 0 then valQ w1 0 else if i = w2.length then valQ w1 (i - 1) else mixQ (valQ w1 (i - 1)) (valQ w1 i) (step - w2.getD (i - 1) 0) (w2.getD i 0 - w2.getD (i - 1) 0)
def atQ (w0 : Int) (w1 : List (Int × Int)) (w2 : List Int) (step : Int) : Rat :=
  if w0 = 1 then valQ w1 0 else if w0 = 2 then pulseQ (valQ w1 0) (valQ w1 1) (w2.getD 0 0) (w2.getD 1 0) (w2.getD 2 0) (w2.getD 3 0) (w2.getD 4 0) step
  else if w0 = 3 then pwlQ w1 w2 step (upI step w2) else valQ w1 (step % (w1.length : Int)).toNat
theorem upI_le (step : Int) : ∀ l : List Int, upI step l ≤ l.length
  | [] => Nat.le_refl _
  | x :: l => by have := upI_le step l; unfold upI; split <;> simp <;> omega
theorem upI_below (step : Int) : ∀ (l : List Int) (j : Nat), j < upI step l → l.getD j 0 ≤ step
  | [], j, h => absurd h (by simp [upI])
  | x :: l, j, h => by
    unfold upI at h
    split at h
    · cases j with
      | zero => simpa using ‹x ≤ step›
      | succ j => simpa using upI_below step l j (by omega)
    · omega
theorem upI_at (step : Int) : ∀ l : List Int, upI step l < l.length → step < l.getD (upI step l) 0
  | [], h => absurd h (by simp)
  | x :: l, h => by
    unfold upI at h ⊢
    split at h
    · rename_i g
      rw [if_pos g]
      simpa using upI_at step l (by simpa using h)
    · rename_i g
      rw [if_neg g]
      simpa using g
theorem pwl_loop (step w0 : Int) (w1 : List (Int × Int)) (w2 : List Int) (h2 : w2.length ≤ 1000000000000000000) : ∀ d i : Nat, i + d = w2.length → Rl (fun k n => Lwave_pwl_0 k n step i w0 w1 w2) (step, ((i + upI step (w2.drop i) : Nat) : Int), w0, w1, w2) := by
  intro d
  induction d with
  | zero =>
    intro i hi
    refine Rl.up (f := fun k n => Lwave_pwl_0 k n step i w0 w1 w2) (Rl.of 0 fun k n _ => ?_)
    show Lwave_pwl_0s k (Lwave_pwl_0 k n) _ _ _ _ _ = _
    unfold Lwave_pwl_0s
    rw [List.drop_of_length_le (by omega)]
    exact if_neg (by simp; omega)
  | succ d ih =>
    intro i hi
    refine Rl.up (f := fun k n => Lwave_pwl_0 k n step i w0 w1 w2) ?_
    show Rl (fun k n => Lwave_pwl_0s k (Lwave_pwl_0 k n) _ _ _ _ _) _
    unfold Lwave_pwl_0s
    have hd : w2.drop i = w2.getD i 0 :: w2.drop (i + 1) := by rw [List.drop_eq_getElem_cons (by omega)]; simp [List.getD, show i < w2.length by omega]
    refine Rl.t (decide_eq_true (by omega)) (Rl.t (by omega) (Rl.at (getD_some 0 (by omega)) ?_))
    rw [Int.toNat_natCast, hd]
    by_cases h : w2.getD i 0 ≤ step
    · refine Rl.t (decide_eq_true h) ?_
      have := ih (i + 1) (by omega)
      rw [wrap_i64 (by omega)]
      unfold upI
      rw [if_pos h]
      have e : i + (upI step (w2.drop (i + 1)) + 1) = i + 1 + upI step (w2.drop (i + 1)) := by omega
      rw [e]
      exact this
    · refine Rl.f (by rw [decide_eq_true_eq]; exact h) ?_
      unfold upI
      rw [if_neg h]
      exact Rl.pure _
section
variable {w0 : Int} {w1 : List (Int × Int)} {w2 : List Int} (hw : OkW w0 w1 w2) {step : Int} (h0 : 0 ≤ step) (h1 : step ≤ 1000000000)
include hw h0 h1
theorem pulse_ev (hk : w0 = 2) : ∃ s p t r, Rn (fun k => Fwave_pulse k w0 w1 w2 step) (s, p, t, r) ∧ Fr s p t r (atQ w0 w1 w2 step) ∧ p.length ≤ 40 ∧ r.length ≤ 40 := by
  obtain ⟨g1, g2, g3, g4⟩ : w1.length = 2 ∧ w2.length = 5 ∧ 1 ≤ w2.getD 4 0 ∧ w2.getD 1 0 + w2.getD 2 0 + w2.getD 3 0 ≤ w2.getD 4 0 := by
    rcases hw.kind with g | g | g | g
    · omega
    · exact g.2
    · omega
    · omega
  have v0 := hw.vals 0 (by omega) (by omega)
  have v1 := hw.vals 1 (by omega) (by omega)
  have q0 := hw.steps 0 (by omega) (by omega)
  have q1 := hw.steps 1 (by omega) (by omega)
  have q2 := hw.steps 2 (by omega) (by omega)
  have q3 := hw.steps 3 (by omega) (by omega)
  have q4 := hw.steps 4 (by omega) (by omega)
  obtain ⟨sl, pl, tl', rl, l1, l2, l3, l4⟩ := wvalue_ev v0
  obtain ⟨sh, ph, th, rh, m1, m2, m3, m4⟩ := wvalue_ev v1
  have eq : atQ w0 w1 w2 step = pulseQ (valQ w1 0) (valQ w1 1) (w2.getD 0 0) (w2.getD 1 0) (w2.getD 2 0) (w2.getD 3 0) (w2.getD 4 0) step := by
    unfold atQ; rw [if_neg (by omega), if_pos hk]
  rw [eq]
  have r0 := getD_some (l := w2) 0 (show 0 < w2.length by omega)
  have r1 := getD_some (l := w2) 0 (show 1 < w2.length by omega)
  have r2 := getD_some (l := w2) 0 (show 2 < w2.length by omega)
  have r3 := getD_some (l := w2) 0 (show 3 < w2.length by omega)
  have r4 := getD_some (l := w2) 0 (show 4 < w2.length by omega)
  generalize w2.getD 0 0 = s0 at *
  generalize w2.getD 1 0 = s1 at *
  generalize w2.getD 2 0 = s2 at *
  generalize w2.getD 3 0 = s3 at *
  generalize w2.getD 4 0 = s4 at *
  have up : ∀ {s p t r}, Rn (fun k => bwave_pulse k w0 w1 w2 step) (s, p, t, r) → Rn (fun k => Fwave_pulse k w0 w1 w2 step) (s, p, t, r) := fun h => Rn.up (f := fun k => Fwave_pulse k w0 w1 w2 step) h
  by_cases c0 : step < s0
  · refine ⟨sl, pl, tl', rl, up ?_, l2.cast (by unfold pulseQ; rw [if_pos c0]; rfl), by omega, by omega⟩
    exact Rn.at (getD_some (0, 0) (by show 0 < w1.length; omega)) (Rn.at (getD_some (0, 0) (by show 1 < w1.length; omega)) (Rn.at r0 (Rn.t (decide_eq_true c0) (Rn.bind l1 (Rn.pure _)))))
  have et : Int.tmod (IntKind.i64.wrap (step - s0)) s4 = (step - s0) % s4 := by
    rw [wrap_i64 (by omega)]; exact Int.tmod_eq_emod_of_nonneg (by omega)
  have t0 := Int.emod_nonneg (step - s0) (show s4 ≠ 0 by omega)
  have t1 := Int.emod_lt_of_pos (step - s0) (show 0 < s4 by omega)
  have wr1 : IntKind.i64.wrap (s1 + s2) = s1 + s2 := wrap_i64 (by omega)
  have wr2 : IntKind.i64.wrap (s1 + s2 + s3) = s1 + s2 + s3 := wrap_i64 (by omega)
  unfold pulseQ
  rw [if_neg c0]
  have pre : ∀ {s p t r}, Rn (fun k => if (decide (Int.tmod (IntKind.i64.wrap (step - s0)) s4 < s1)) = true then _ else _) (s, p, t, r) → Rn (fun k => bwave_pulse k w0 w1 w2 step) (s, p, t, r) := fun h =>
    Rn.at (getD_some (0, 0) (by show 0 < w1.length; omega)) (Rn.at (getD_some (0, 0) (by show 1 < w1.length; omega)) (Rn.at r0 (Rn.f (by rw [decide_eq_true_eq]; exact c0) (Rn.at r0 (Rn.at r4 (Rn.f (by omega) (Rn.at r1 h)))))))
  by_cases c1 : (step - s0) % s4 < s1
  · rw [if_pos c1]
    obtain ⟨s, p, t, r, e1, e2, e3, e4⟩ := between_ev v0 v1 ((step - s0) % s4) s1 (by omega) (by omega) (by omega)
    refine ⟨s, p, t, r, up (pre (Rn.t (by rw [et]; exact decide_eq_true c1) (Rn.at r1 ?_))), e2, e3, e4⟩
    rw [et]
    exact Rn.bind e1 (Rn.pure _)
  rw [if_neg c1]
  by_cases c2 : (step - s0) % s4 < s1 + s2
  · rw [if_pos c2]
    refine ⟨sh, ph, th, rh, up (pre (Rn.f (by rw [et, decide_eq_true_eq]; exact c1) (Rn.at r1 (Rn.at r2 (Rn.t (by rw [et, wr1]; exact decide_eq_true c2) (Rn.bind m1 (Rn.pure _))))))), m2, by omega, by omega⟩
  rw [if_neg c2]
  by_cases c3 : (step - s0) % s4 < s1 + s2 + s3
  · rw [if_pos c3]
    obtain ⟨s, p, t, r, e1, e2, e3, e4⟩ := between_ev v1 v0 ((step - s0) % s4 - s1 - s2) s3 (by omega) (by omega) (by omega)
    refine ⟨s, p, t, r, up (pre (Rn.f (by rw [et, decide_eq_true_eq]; exact c1) (Rn.at r1 (Rn.at r2 (Rn.f (by rw [et, wr1, decide_eq_true_eq]; exact c2) (Rn.at r1 (Rn.at r2 (Rn.at r3 (Rn.t (by rw [et, wr1, wr2]; exact decide_eq_true c3) (Rn.at r1 (Rn.at r2 (Rn.at r3 ?_)))))))))))), e2, e3, e4⟩
    rw [et, wrap_i64 (x := (step - s0) % s4 - s1) (by omega), wrap_i64 (by omega)]
    exact Rn.bind e1 (Rn.pure _)
  rw [if_neg c3]
  refine ⟨sl, pl, tl', rl, up (pre (Rn.f (by rw [et, decide_eq_true_eq]; exact c1) (Rn.at r1 (Rn.at r2 (Rn.f (by rw [et, wr1, decide_eq_true_eq]; exact c2) (Rn.at r1 (Rn.at r2 (Rn.at r3 (Rn.f (by rw [et, wr1, wr2, decide_eq_true_eq]; exact c3) (Rn.bind l1 (Rn.pure _))))))))))), l2, by omega, by omega⟩
end
end Go.Proofs.Ytbhnafdmilfobaa.Am

/- Plain reckoning: what a wave says, the whole. -/
set_option linter.unusedVariables false
set_option linter.unusedSectionVars false
set_option linter.unusedSimpArgs false
set_option maxRecDepth 10000
namespace Go.Proofs.Ytbhnafdmilfobaa.Am
open Go
section
variable {w0 : Int} {w1 : List (Int × Int)} {w2 : List Int} (hw : OkW w0 w1 w2) {step : Int} (h0 : 0 ≤ step) (h1 : step ≤ 1000000000)
include hw h0 h1
theorem pwl_ev (hk : w0 = 3) : ∃ s p t r, Rn (fun k => Fwave_pwl k w0 w1 w2 step) (s, p, t, r) ∧ Fr s p t r (atQ w0 w1 w2 step) ∧ p.length ≤ 40 ∧ r.length ≤ 40 := by
  obtain ⟨g1, g2, g3, g4⟩ : w1.length = w2.length ∧ 1 ≤ w1.length ∧ w1.length ≤ 16 ∧ (∀ j, 1 ≤ j → j < w2.length → w2.getD (j - 1) 0 < w2.getD j 0) := by
    rcases hw.kind with g | g | g | g
    · omega
    · omega
    · exact g.2
    · omega
  have eq : atQ w0 w1 w2 step = pwlQ w1 w2 step (upI step w2) := by
    unfold atQ; rw [if_neg (by omega), if_neg (by omega), if_pos hk]
  rw [eq]
  have lp := pwl_loop step w0 w1 w2 (by omega) w2.length 0 (by omega)
  have hle := upI_le step w2
  rw [List.drop_zero, Nat.zero_add] at lp
  have hb := upI_below step w2
  have ha := upI_at step w2
  generalize upI step w2 = i at *
  have up : ∀ {s p t r}, Rn (fun k => bwave_pwl k w0 w1 w2 step) (s, p, t, r) → Rn (fun k => Fwave_pwl k w0 w1 w2 step) (s, p, t, r) := fun h => Rn.up (f := fun k => Fwave_pwl k w0 w1 w2 step) h
  unfold pwlQ
  by_cases c0 : i = 0
  · rw [if_pos c0]
    obtain ⟨s, p, t, r, l1, l2, l3, l4⟩ := wvalue_ev (hw.vals 0 (by omega) (by omega))
    refine ⟨s, p, t, r, up (Rn.bind lp.diag (Rn.t (by rw [c0]; rfl) (Rn.at (getD_some (0, 0) (by show 0 < w1.length; omega)) (Rn.bind l1 (Rn.pure _))))), l2, by omega, by omega⟩
  rw [if_neg c0]
  have e1 : (IntKind.i64.wrap ((i : Int) - 1)) = ((i - 1 : Nat) : Int) := by rw [wrap_i64 (by omega)]; omega
  by_cases c1 : i = w2.length
  · rw [if_pos c1]
    obtain ⟨s, p, t, r, l1, l2, l3, l4⟩ := wvalue_ev (hw.vals (i - 1) (by omega) (by omega))
    refine ⟨s, p, t, r, up (Rn.bind lp.diag (Rn.f (by rw [beq_iff_eq]; show ¬ (i : Int) = 0; omega) (Rn.t (by rw [beq_iff_eq]; show (i : Int) = w2.length; omega) ?_))), l2, by omega, by omega⟩
    dsimp only
    rw [e1]
    exact Rn.t (by omega) (Rn.at (getD_some (0, 0) (by rw [Int.toNat_natCast]; omega)) (Rn.bind l1 (Rn.pure _)))
  · rw [if_neg c1]
    have hi : i < w2.length := by omega
    have b1 := hb (i - 1) (by omega)
    have b2 := ha hi
    have q1 := hw.steps (i - 1) (by omega) (by omega)
    have q2 := hw.steps i (by omega) (by omega)
    obtain ⟨s, p, t, r, f1, f2, f3, f4⟩ := between_ev (hw.vals (i - 1) (by omega) (by omega)) (hw.vals i (by omega) (by omega)) (step - w2.getD (i - 1) 0) (w2.getD i 0 - w2.getD (i - 1) 0) (by omega) (by omega) (by omega)
    refine ⟨s, p, t, r, up (Rn.bind lp.diag (Rn.f (by rw [beq_iff_eq]; show ¬ (i : Int) = 0; omega) (Rn.f (by rw [beq_iff_eq]; show ¬ (i : Int) = w2.length; omega) ?_))), f2, f3, f4⟩
    dsimp only
    rw [e1]
    refine Rn.t (by omega) (Rn.at (getD_some (0, 0) (by rw [Int.toNat_natCast]; omega)) (Rn.t (by omega) (Rn.at (getD_some (0, 0) (by rw [Int.toNat_natCast]; omega)) (Rn.t (by omega) (Rn.at (getD_some 0 (by rw [Int.toNat_natCast]; omega)) (Rn.t (by omega) (Rn.at (getD_some 0 (by rw [Int.toNat_natCast]; omega)) (Rn.t (by omega) (Rn.at (getD_some 0 (by rw [Int.toNat_natCast]; omega)) ?_)))))))))
    rw [Int.toNat_natCast, Int.toNat_natCast, wrap_i64 (by omega), wrap_i64 (by omega)]
    exact Rn.bind f1 (Rn.pure _)
theorem atRight_ev : Rn (fun k => Fwave_At k w0 w1 w2 step) (gridR (atQ w0 w1 w2 step)) := by
  have hl : w1.length ≤ 1000000000000000000 ∧ w2.length ≤ 1000000000000000000 := by
    have := hw.kind; omega
  have hv := waveValid_ev w0 w1 w2 hl.1 hl.2
  rw [okW_iff.2 hw] at hv
  refine Rn.up (f := fun k => Fwave_At k w0 w1 w2 step) (Rn.bind hv (Rn.f (by decide) (Rn.t (by rw [decide_eq_false_iff_not]; omega) (Rn.f (by rw [decide_eq_true_eq]; omega) ?_))))
  by_cases k1 : w0 = 1
  · have hlen : w1.length = 1 := by have := hw.kind; omega
    obtain ⟨s, p, t, r, l1, l2, l3, l4⟩ := wvalue_ev (hw.vals 0 (by omega) (by omega))
    have eq : atQ w0 w1 w2 step = valQ w1 0 := by unfold atQ; rw [if_pos k1]
    rw [eq]
    exact Rn.t (by rw [beq_iff_eq]; exact k1) (Rn.at (getD_some (0, 0) (by show 0 < w1.length; omega)) (Rn.bind l1 (grid_end l2 (show p.length ≤ 40 by omega) (show r.length ≤ 40 by omega))))
  refine Rn.f (by rw [beq_iff_eq]; exact k1) ?_
  by_cases k2 : w0 = 2
  · obtain ⟨s, p, t, r, l1, l2, l3, l4⟩ := pulse_ev hw h0 h1 k2
    exact Rn.t (by rw [beq_iff_eq]; exact k2) (Rn.bind l1 (grid_end l2 l3 l4))
  refine Rn.f (by rw [beq_iff_eq]; exact k2) ?_
  by_cases k3 : w0 = 3
  · obtain ⟨s, p, t, r, l1, l2, l3, l4⟩ := pwl_ev hw h0 h1 k3
    exact Rn.t (by rw [beq_iff_eq]; exact k3) (Rn.bind l1 (grid_end l2 l3 l4))
  refine Rn.f (by rw [beq_iff_eq]; exact k3) ?_
  have k4 : w0 = 4 ∧ 1 ≤ w1.length := by have := hw.kind; omega
  have et : Int.tmod step (w1.length : Int) = step % (w1.length : Int) := Int.tmod_eq_emod_of_nonneg h0
  have t0 := Int.emod_nonneg step (show (w1.length : Int) ≠ 0 by omega)
  have t1 := Int.emod_lt_of_pos step (show 0 < (w1.length : Int) by omega)
  obtain ⟨s, p, t, r, l1, l2, l3, l4⟩ := wvalue_ev (hw.vals (step % (w1.length : Int)).toNat (by omega) (by omega))
  have eq : atQ w0 w1 w2 step = valQ w1 (step % (w1.length : Int)).toNat := by unfold atQ; rw [if_neg k1, if_neg k2, if_neg k3]
  rw [eq]
  refine Rn.f (by omega) ?_
  rw [et]
  exact Rn.t (by omega) (Rn.at (getD_some (0, 0) (by omega)) (Rn.bind l1 (grid_end l2 (show p.length ≤ 40 by omega) (show r.length ≤ 40 by omega))))
end
end Go.Proofs.Ytbhnafdmilfobaa.Am

/- The fixed fact that every law asks first. -/
namespace Go.Proofs.Ytbhnafdmilfobaa.Am
theorem awake4_eq (j : Nat) : Fshuntlaw04_awake (j + 60) = some true := by kernel_rfl
theorem awake4_ev : Rn (fun k => Fshuntlaw04_awake k) true := Rn.eq 60 fun k hk => by
  obtain ⟨j, rfl⟩ : ∃ j, k = j + 60 := ⟨k - 60, by omega⟩
  exact awake4_eq j
end Go.Proofs.Ytbhnafdmilfobaa.Am

/- The law WaveAgain in plain words. -/
set_option linter.unusedVariables false
set_option linter.unusedSectionVars false
set_option linter.unusedSimpArgs false
set_option maxRecDepth 10000
namespace Go.Proofs.Ytbhnafdmilfobaa.Am
open Go
abbrev cdW : Cd := .pr (.int .i64) (.pr (.sl (.pr (.int .i64) (.int .i64))) (.sl (.int .i64)))
end Go.Proofs.Ytbhnafdmilfobaa.Am

/- The law WaveFlat in plain words. -/
set_option linter.unusedVariables false
set_option linter.unusedSectionVars false
set_option linter.unusedSimpArgs false
set_option maxRecDepth 10000
namespace Go.Proofs.Ytbhnafdmilfobaa.Am
open Go
theorem wbytes {w : Int × List (Int × Int) × List Int} (h : Wfd cdW w) : w.2.1.length * 16 ≤ 140737488351232 ∧ w.2.2.length * 8 ≤ 140737488351232 := by
  obtain ⟨_, ⟨⟨a, ra⟩, _⟩, ⟨b, rb⟩, _⟩ := h
  have ra : w.2.1.length * 16 ≤ reachBytes := ra
  have rb : w.2.2.length * 8 ≤ reachBytes := rb
  unfold reachBytes at ra rb
  omega
theorem lent4_ev (w0 : Int) (w1 : List (Int × Int)) (w2 : List Int) (h1 : w1.length * 16 ≤ 140737488351232) (h2 : w2.length * 8 ≤ 140737488351232) :
    Rn (fun k => Fshuntlaw04_lent k w0 w1 w2) (w0, w1.length, w2.length, w1 ++ [(77, 0)], w2 ++ [-77]) := by
  refine Rn.up (f := fun k => Fshuntlaw04_lent k w0 w1 w2) (Rn.eq 0 fun k _ => ?_)
  show bshuntlaw04_lent k w0 w1 w2 = _
  unfold bshuntlaw04_lent
  have e1 : List.take (0 + w1.length) (List.take 0 [] ++ w1) = w1 := by simp
  have e2 : List.take (0 + w2.length) (List.take 0 [] ++ w2) = w2 := by simp
  rw [e1, e2]
  rw [if_pos (by omega), if_pos (by simp), if_pos (by omega), if_pos (by simp), if_pos (by omega), if_pos (by simp), if_pos (by omega), if_pos (by simp)]
  simp
theorem flat_loop (step v0 v1 w0 : Int) (L o2 : Nat) (m1 : List Int) (hL : L ≤ 1000000000000000000) : ∀ (d i : Nat) (rest : List (Int × Int)), d ≤ rest.length → i + d = L →
    Rl (fun k n => Lshuntlaw04_WaveFlat_0 k n step (L : Int) (i : Int) v0 v1 w0 L o2 (List.replicate i (v0, v1) ++ rest) m1) (step, v0, v1, w0, L, o2, List.replicate L (v0, v1) ++ rest.drop d, m1) := by
  intro d
  induction d with
  | zero =>
    intro i rest hr hi
    obtain rfl : i = L := by omega
    refine Rl.up (f := fun k n => Lshuntlaw04_WaveFlat_0 k n step (i : Int) (i : Int) v0 v1 w0 i o2 (List.replicate i (v0, v1) ++ rest) m1) (Rl.of 0 fun k n _ => ?_)
    show Lshuntlaw04_WaveFlat_0s k (Lshuntlaw04_WaveFlat_0 k n) _ _ _ _ _ _ _ _ _ _ = _
    unfold Lshuntlaw04_WaveFlat_0s
    rw [List.drop_zero]
    exact if_neg (by simp)
  | succ d ih =>
    intro i rest hr hi
    cases rest with
    | nil => simp at hr
    | cons y rest =>
    refine Rl.up (f := fun k n => Lshuntlaw04_WaveFlat_0 k n step (L : Int) (i : Int) v0 v1 w0 L o2 (List.replicate i (v0, v1) ++ y :: rest) m1) ?_
    show Rl (fun k n => Lshuntlaw04_WaveFlat_0s k (Lshuntlaw04_WaveFlat_0 k n) _ _ _ _ _ _ _ _ _ _) _
    unfold Lshuntlaw04_WaveFlat_0s
    have e1 : (List.replicate i (v0, v1) ++ y :: rest)[0 + i]? = some y := by simp
    have e2 : (List.replicate i (v0, v1) ++ y :: rest).set (0 + i) (v0, v1) = List.replicate (i + 1) (v0, v1) ++ rest := by
      rw [Nat.zero_add, List.set_append_right _ _ (by simp), List.replicate_succ']
      simp
    refine Rl.t (decide_eq_true (by omega)) (Rl.t (by omega) (Rl.at (by rw [Int.toNat_natCast]; exact e1) ?_))
    rw [Int.toNat_natCast, e2, wrap_i64 (by omega)]
    exact ih (i + 1) rest (by simpa using hr) (by omega)
theorem mixQ_same (x : Rat) (k n : Int) : mixQ x x k n = x := by unfold mixQ; rw [Rat.sub_self, Rat.zero_mul, Rat.zero_add]
theorem atQ_flat {w0 : Int} {n : Nat} {v0 v1 : Int} {w2 : List Int} (ok : OkW w0 (List.replicate n (v0, v1)) w2) {step : Int} (h0 : 0 ≤ step) : atQ w0 (List.replicate n (v0, v1)) w2 step = numQ v0 v1 := by
  have hk := ok.kind
  rw [List.length_replicate] at hk
  have hv : ∀ j, j < n → valQ (List.replicate n (v0, v1)) j = numQ v0 v1 := fun j hj => by
    unfold valQ
    simp [List.getD, hj]
  unfold atQ
  by_cases k1 : w0 = 1
  · rw [if_pos k1]; exact hv 0 (by omega)
  rw [if_neg k1]
  by_cases k2 : w0 = 2
  · rw [if_pos k2, hv 0 (by omega), hv 1 (by omega)]
    unfold pulseQ
    simp only [mixQ_same, ite_self]
  rw [if_neg k2]
  by_cases k3 : w0 = 3
  · rw [if_pos k3]
    have hle := upI_le step w2
    unfold pwlQ
    split
    · exact hv 0 (by omega)
    · split
      · exact hv _ (by omega)
      · rw [hv _ (by omega), hv _ (by omega), mixQ_same]
  rw [if_neg k3, List.length_replicate]
  have t0 := Int.emod_nonneg step (show (n : Int) ≠ 0 by omega)
  have t1 := Int.emod_lt_of_pos step (show 0 < (n : Int) by omega)
  exact hv _ (by omega)
theorem pure_WaveFlat (w : Int × List (Int × Int) × List Int) (step : Int) (v : Int × Int) (ww : Wfd cdW w) (ws : Wfd (.int .i64) step) (wv : Wfd (.pr (.int .i64) (.int .i64)) v) : ∃ k, Fshuntlaw04_WaveFlat k w.1 w.2.1 w.2.2 step v.1 v.2 = some true := by
  obtain ⟨l1, l2⟩ := wbytes ww
  obtain ⟨w0, w1, w2⟩ := w
  obtain ⟨v0, v1⟩ := v
  dsimp only at l1 l2 ⊢
  suffices h : Rn (fun k => Fshuntlaw04_WaveFlat k w0 w1 w2 step v0 v1) true from h.get
  have lp := flat_loop step v0 v1 w0 w1.length w2.length (w2 ++ [-77]) (by omega) w1.length 0 (w1 ++ [(77, 0)]) (by simp) (by omega)
  refine Rn.up (f := fun k => Fshuntlaw04_WaveFlat k w0 w1 w2 step v0 v1) (Rn.bind awake4_ev (Rn.f (by decide) (Rn.bind (lent4_ev w0 w1 w2 l1 l2) (Rn.bind lp.diag ?_))))
  dsimp only
  have e1 : List.take w1.length (List.replicate w1.length (v0, v1) ++ (w1 ++ [(77, 0)]).drop w1.length) = List.replicate w1.length (v0, v1) := by
    rw [List.take_append_of_le_length (by simp)]; simp
  have e2 : List.take w2.length (w2 ++ [-77]) = w2 := by simp
  have c1 : 0 + w1.length ≤ (List.replicate w1.length (v0, v1) ++ (w1 ++ [(77, 0)]).drop w1.length).length := by simp
  have c2 : 0 + w2.length ≤ (w2 ++ [-77]).length := by simp
  rw [e1, e2]
  generalize hg : List.replicate w1.length (v0, v1) = g at *
  have lg : g.length = w1.length := by rw [← hg]; simp
  have hr := waveRef_ev w0 g w2 (by omega) (by omega)
  have hp := waveValid_ev w0 g w2 (by omega) (by omega)
  refine Rn.t c1 (Rn.t c2 (Rn.bind hr ?_))
  by_cases hw : okW w0 g w2 = true
  rotate_left
  · exact Rn.f (by simp [hw]) (Rn.t c1 (Rn.t c2 (Rn.bind hp (Rn.t c1 (Rn.t c2 (Rn.bind hr (Rn.const (by simp))))))))
  refine Rn.t (by simp [hw]) ?_
  by_cases s1 : step < 0
  · exact Rn.f (by rw [decide_eq_false_iff_not]; omega) (Rn.t c1 (Rn.t c2 (Rn.bind hp (Rn.t c1 (Rn.t c2 (Rn.bind hr (Rn.const (by simp))))))))
  refine Rn.t (by rw [decide_eq_false_iff_not]; omega) ?_
  by_cases s2 : step > 1000000000
  · exact Rn.t (by rw [decide_eq_true_eq]; omega) (Rn.t c1 (Rn.t c2 (Rn.bind hp (Rn.t c1 (Rn.t c2 (Rn.bind hr (Rn.const (by simp))))))))
  have ok := okW_iff.1 hw
  have hn : 1 ≤ w1.length := by have := ok.kind; omega
  have hv : okN v0 v1 = true := by
    have := ok.vals 0 (by omega) (by omega)
    rw [← hg] at this
    simpa [List.getD, show 0 < w1.length by omega] using this
  refine Rn.f (by rw [decide_eq_true_eq]; omega) (Rn.t c1 (Rn.t c2 (Rn.bind (atRight_ev ok (by omega) (by omega)) (Rn.bind (numGrid_ev v0 v1) ?_))))
  subst hg
  rw [atQ_flat ok (by omega), if_pos hv]
  refine Rn.t (by simp) (Rn.t (by simp) (Rn.bind (refValid_ev v0 v1) ?_))
  rw [hv]
  exact Rn.pure _
end Go.Proofs.Ytbhnafdmilfobaa.Am

/- The law WaveFlat returns true for every input, and its arguments read as they did. -/
namespace Go.Proofs.Ytbhnafdmilfobaa.waveFlat
open Go.ChangeShapes Go.WideShapes Go.ChangeAt Go.RowKit
open Go.Proofs.Ytbhnafdmilfobaa.Am
set_option linter.unusedVariables false
theorem own : ownKnob Try.prog.godebug = none := by kernel_rfl
theorem laidOut : laidOutB Try.prog = true := by kernel_rfl
set_option maxRecDepth 100000 in
theorem lifted (os : Os) (started : os.Started) (H : Type) (enc : TypeId × Value → H) :
    ReturnsInHanded {} Try.checked os 7 .any (Rows.waveFlatSpec.pre6 enc Try.prog Try.f7 Rows.waveFlatRow.domain false) (Rows.waveFlatSpec.post enc Try.prog Try.f7 false true false false) := by
  refine returnsInHanded_of_change_sized (C := Try.checked) own started (by kernel_rfl) Try.func7
    (ChangeSpec.witness6 (enc := enc) (C := Try.checked) false ⟨#[], #[.agg #[.int .i64 0, .slice none 0 0, .slice none 0 0], .int .i64 0, .agg #[.int .i64 0, .int .i64 0]], []⟩ 8 (by kernel_rfl) (by kernel_rfl) (by kernel_rfl) (by kernel_rfl)) ?_
  intro W base args ds gs before hval0 hW hcnd hsz0 _
  have hval : ∀ (j : Nat) t v, Try.f7.params[j]? = some t → args[j]? = some v → Value.okWide Try.prog W .any base t v := hval0
  have hW' := hW
  obtain ⟨p, q, hA0, hV, rfl, hfz, hnd⟩ := hW
  have hA : DataW.TrodAll enc Try.prog W 0 (fun _ => true) true Try.f7.params.toList args.toList ds p := hA0
  rw [Try.params7] at hA hval
  obtain ⟨v0, vs0, d0, ds0, p0, q0, hargs, rfl, rfl, h0, r0⟩ := trodAll_cons hA
  obtain ⟨v1, vs1, d1, ds1, p1, q1, rfl, rfl, rfl, h1, r1⟩ := trodAll_cons r0
  obtain ⟨v2, vs2, d2, ds2, p2, q2, rfl, rfl, rfl, h2, r2⟩ := trodAll_cons r1
  obtain ⟨rfl, rfl, rfl⟩ := trodAll_nil r2
  obtain rfl : args = #[v0, v1, v2] := by cases args; simp_all
  obtain ⟨rfl, rfl⟩ := trodVars_none hV
  rw [Try.params7] at hsz0
  obtain ⟨hz0, hs0⟩ := sized_cons hsz0
  obtain ⟨hz1, hs1⟩ := sized_cons hs0
  obtain ⟨hz2, hs2⟩ := sized_cons hs1
  have lt0 : ∀ x ∈ p0, x.block < W.heap.size := by obtain ⟨m, hm⟩ := h0; exact DataW.trod_lt m _ _ _ hm
  obtain ⟨y0, rv0, nm0, wf0⟩ := open_cd (d := 9) (c := (.pr (.int .i64) (.pr (.sl (.pr (.int .i64) (.int .i64))) (.sl (.int .i64))))) true (by kernel_rfl) (by kernel_rfl) (by kernel_rfl) (hval 0 40 v0 rfl rfl) h0 hz0
  have lt1 : ∀ x ∈ p1, x.block < W.heap.size := by obtain ⟨m, hm⟩ := h1; exact DataW.trod_lt m _ _ _ hm
  obtain ⟨y1, rv1, nm1, wf1⟩ := open_cd (d := 9) (c := (.int .i64)) false (by kernel_rfl) (by kernel_rfl) (by kernel_rfl) (hval 1 3 v1 rfl rfl) h1 hz1
  have lt2 : ∀ x ∈ p2, x.block < W.heap.size := by obtain ⟨m, hm⟩ := h2; exact DataW.trod_lt m _ _ _ hm
  obtain ⟨y2, rv2, nm2, wf2⟩ := open_cd (d := 9) (c := (.pr (.int .i64) (.int .i64))) true (by kernel_rfl) (by kernel_rfl) (by kernel_rfl) (hval 2 49 v2 rfl rfl) h2 hz2
  clear hA0 hval0
  obtain ⟨k, hk⟩ := pure_WaveFlat y0 y1 y2 wf0 wf1 wf2
  refine (law_inst cfg_ok (okshuntlaw04_WaveFlat k) (x := (y0.1, y0.2.1, y0.2.2, y1, y2.1, y2.2)) (y := true) hk rfl (args := [argV true (.pr (.int .i64) (.pr (.sl (.pr (.int .i64) (.int .i64))) (.sl (.int .i64)))) y0, argV false (.int .i64) y1, argV true (.pr (.int .i64) (.int .i64)) y2]) rfl (rvs_cons rv0 (rvs_cons rv1 (rvs_cons rv2 rvs_nil))) (names_cons nm0 (names_cons nm1 (names_cons nm2 rfl)))).mono fun e W' ⟨he, bel⟩ => ?_
  subst he
  exact ⟨_, rfl, _, _, _, [], _, [], hW', trodAll_mk1 (shut_bool Try.underlying4 _), (trodAll_cons_mk (Below.trod laidOut (by kernel_rfl) (of_decide_eq_true (by kernel_rfl)) h0 bel lt0) (trodAll_cons_mk (Below.trod laidOut (by kernel_rfl) (of_decide_eq_true (by kernel_rfl)) h1 bel lt1) (trodAll_cons_mk (Below.trod laidOut (by kernel_rfl) (of_decide_eq_true (by kernel_rfl)) h2 bel lt2) trodAll_mk0))), rfl, bel.frame _, fun h => by cases h⟩
theorem over : Rows.waveFlatRow.holds Try.pinned (OpenSpec.ofChange Rows.waveFlatSpec) :=
  OpenClaim.holds_of_wide 7 Try.f7 rfl rfl rfl rfl rfl rfl rfl ⟨rfl, rfl, rfl, rfl, rfl⟩ rfl rfl rfl rfl rfl (by kernel_rfl) Try.func7 (by kernel_rfl)
    (of_decide_eq_true (by kernel_rfl)) (by unfold Func.isWrapper; first | (rw [if_pos (by decide +kernel)]; kernel_rfl) | (rw [if_neg (by decide +kernel)]; exact ⟨rfl, rfl⟩))
    (fun os started H enc _ => lifted os started H enc)
theorem proved : Rows.WaveFlatSaid := over
#print axioms proved
end Go.Proofs.Ytbhnafdmilfobaa.waveFlat
namespace Go.Proofs.Ytbhnafdmilfobaa
/-- The row, under a short name, for the claim. -/
theorem waveFlat_holds : Rows.WaveFlatSaid := waveFlat.proved
end Go.Proofs.Ytbhnafdmilfobaa
