/- The law RatLowest returns true for every input, and its arguments read as they did. -/
import Derived.Test.YtjgpegpjmkgkkaaMRatLowest1
import Derived.Test.YtjgpegpjmkgkkaaRows
import Derived.WalkKit
import Derived.ProofKit
import Derived.OpenShut
import Derived.ShutString
import Derived.ChangeOld
import Derived.Below
import Derived.SizedLaws
import Derived.Carry

set_option linter.unusedVariables false
set_option linter.unusedSimpArgs false
set_option maxRecDepth 10000
namespace Go.Proofs.Ytjgpegpjmkgkkaa.Am
open Go

set_option maxHeartbeats 1000000 in
theorem Divide_ev (a0 b0 : Bool) (a1 b1 : List Int) {x y : Int} (nx : Nm U a0 a1 x) (ny : Nm U b0 b1 y) (hla : a1.length ≤ 800000) (hlb : b1.length ≤ 800000) (hb0 : b1 ≠ []) :
    ∃ s q t r, Rn (fun k => Fshuntref01_Divide k a0 a1 b0 b1) (s, q, t, r) ∧ Nm U s q (x.tdiv y) ∧ Nm U t r (x.tmod y) ∧ q.length ≤ a1.length ∧ r.length ≤ b1.length := by
  have hb : 0 < V U b1 := by
    have p := V_nonneg (B := U) (by decide) ny.c.1
    have := mt (ny.c.nil_iff (B := U) (by decide)).2 hb0
    omega
  have pa := V_nonneg (B := U) (by decide) nx.c.1
  obtain ⟨qs, r, z, hz, ⟨lq, dq, cr, hr, hv⟩, K, hl⟩ := div_loop a0 b0 a1 b1 nx.c.1 ny.c hb hla hlb a1.length (List.replicate a1.length 0) [] _ (Nat.le_refl _) (by simp) (Dg.rep _ (by decide)) Cn.nil (by simpa [V] using hb) (by
    rw [List.drop_of_length_le (by simp), List.drop_of_length_le (by simp)]; simp [V]) (.inl ⟨[], [], [], rfl, by simp, rfl⟩)
  have hr0 := V_nonneg (B := U) (by decide) cr.1
  have hu := rdiv_uniq hv hr0 hr
  have cq : Cn U (tl qs) := Cn.of dq
  have e1 := rtdiv_sg a0 b0 (Y := V U b1) pa
  have e2 := rtmod_sg a0 b0 (Y := V U b1) pa
  rw [nx.z, ny.z, ← hu.1] at e1
  rw [nx.z, ny.z, ← hu.2] at e2
  have n1 := nm_sg (a0 := !(a0 == b0)) cq (V_tl qs)
  have n2 := nm_sg (a0 := a0) cr rfl
  have ltq := tl_len qs
  refine ⟨_, _, _, _, ?_, n1.cast e1.symm, n2.cast e2.symm, by omega, ?_⟩
  · refine Rn.up (f := fun k => Fshuntref01_Divide k a0 a1 b0 b1) (Rn.eq (K + a1.length + 4) fun k hk => ?_)
    show bshuntref01_Divide k a0 a1 b0 b1 = _
    unfold bshuntref01_Divide
    have hdec : ∀ l : List Int, decide ((0 : Int) < (l.length : Int)) = decide (0 < l.length) := fun l => by congr 1; simp
    have h1 : Lshuntref01_Divide_0 k k (Sum.inl (a1.length, 0, (a1.length : Int) - 1, a0, a1, b0, b1, false, 0, false, 0, List.replicate a1.length 0, [], [], [])) = some z := hl k k (by omega) (by omega)
    have h2 := rtrim_eq qs (by omega) k (by omega)
    rw [lq] at h2
    have h3 := tl_take qs
    rcases hz with ⟨mem, m1, m2, rfl, g1, g2⟩ | ⟨m1, m2, rfl⟩
    · simp (config := { implicitDefEqProofs := false, maxSteps := 2000000 }) (disch := omega) only [ps, ↓reduceIte, reduceCtorEq, Int.reduceLT, Int.reduceLE, Int.reduceEq, Nat.reduceLT, Nat.reduceLeDiff, Nat.reduceEqDiff, Int.reduceNeg, eitherK, h1]
      simp (config := { implicitDefEqProofs := false, maxSteps := 2000000 }) (disch := omega) only [ps, ↓reduceIte, reduceCtorEq, Int.reduceLT, Int.reduceLE, Int.reduceEq, Nat.reduceLT, Nat.reduceLeDiff, Nat.reduceEqDiff, Int.reduceNeg, eitherK, h2, g1]
      cases a0 <;> cases b0 <;> simp (config := { implicitDefEqProofs := false, maxSteps := 2000000 }) (disch := omega) only [ps, ↓reduceIte, reduceCtorEq, Int.reduceLT, Int.reduceLE, Int.reduceEq, Nat.reduceLT, Nat.reduceLeDiff, Nat.reduceEqDiff, Int.reduceNeg, eitherK, h3, g2, hdec, if_true, if_false]
    · simp (config := { implicitDefEqProofs := false, maxSteps := 2000000 }) (disch := omega) only [ps, ↓reduceIte, reduceCtorEq, Int.reduceLT, Int.reduceLE, Int.reduceEq, Nat.reduceLT, Nat.reduceLeDiff, Nat.reduceEqDiff, Int.reduceNeg, eitherK, h1]
      simp (config := { implicitDefEqProofs := false, maxSteps := 2000000 }) (disch := omega) only [ps, ↓reduceIte, reduceCtorEq, Int.reduceLT, Int.reduceLE, Int.reduceEq, Nat.reduceLT, Nat.reduceLeDiff, Nat.reduceEqDiff, Int.reduceNeg, eitherK, h2]
      cases a0 <;> cases b0 <;> simp (config := { implicitDefEqProofs := false, maxSteps := 2000000 }) (disch := omega) only [ps, ↓reduceIte, reduceCtorEq, Int.reduceLT, Int.reduceLE, Int.reduceEq, Nat.reduceLT, Nat.reduceLeDiff, Nat.reduceEqDiff, Int.reduceNeg, eitherK, h3, hdec, if_true, if_false]
  · refine Nat.le_of_not_lt fun hlt => ?_
    have := Cn.len_lt (B := U) (by decide) ny.c cr hlt
    omega
theorem common_loop (x0 : Bool) (x1 : Nat) (m : List Int) (M : Nat) (hM : M ≤ 800000) : ∀ (N : Nat) (a b : List Int), V U b ≤ N → Cn U a → Cn U b → a.length ≤ M → b.length ≤ M →
    ∃ l b1, (∃ K, ∀ k n, K ≤ k → N < n → Lshuntref01_Common_0 k n false a false b x0 x1 m = some (false, l, false, b1, x0, x1, m)) ∧ Cn U l ∧ V U l = Int.gcd (V U a) (V U b) ∧ l.length ≤ M := by
  intro N
  induction N using Nat.strongRecOn with
  | ind N ih =>
    intro a b hN ca cb ha hb
    have pa := V_nonneg (B := U) (by decide) ca.1
    by_cases h0 : b = []
    · subst h0
      refine ⟨a, [], ⟨0, fun k n _ hn => ?_⟩, ca, by simp [V]; omega, ha⟩
      obtain ⟨n, rfl⟩ : ∃ m, n = m + 1 := ⟨n - 1, by omega⟩
      show Lshuntref01_Common_0s k (Lshuntref01_Common_0 k n) _ _ _ _ _ _ _ = _
      unfold Lshuntref01_Common_0s
      simp (config := { implicitDefEqProofs := false, maxSteps := 2000000 }) (disch := omega) only [ps, ↓reduceIte, reduceCtorEq, Int.reduceLT, Int.reduceLE, Int.reduceEq, Nat.reduceLT, Nat.reduceLeDiff, Nat.reduceEqDiff, Int.reduceNeg, eitherK]
    · have pb : 0 < V U b := by
        have p := V_nonneg (B := U) (by decide) cb.1
        have := mt (cb.nil_iff (B := U) (by decide)).2 h0
        omega
      obtain ⟨s, q, t, r, ⟨K1, h1⟩, h2, h3, h4, h5⟩ := Divide_ev false false a b (nm_pos ca rfl) (nm_pos cb rfl) (by omega) (by omega) h0
      have hr0 := Int.emod_nonneg (V U a) (show V U b ≠ 0 by omega)
      have hr1 := Int.emod_lt_of_pos (V U a) pb
      rw [tmod_pos pa] at h3
      obtain ⟨R, hR⟩ := Int.eq_ofNat_of_zero_le hr0
      have ht : t = false := by rw [h3.neg (by decide)]; simp; omega
      subst ht
      have hvr : V U r = R := by rw [h3.abs (by decide), hR]; rfl
      obtain ⟨l, b1, ⟨K2, i1⟩, i2, i3, i4⟩ := ih R (by omega) b r (by omega) cb h3.c hb (by omega)
      refine ⟨l, b1, ⟨max K1 K2, fun k n hk hn => ?_⟩, i2, ?_, i4⟩
      · obtain ⟨n, rfl⟩ : ∃ m, n = m + 1 := ⟨n - 1, by omega⟩
        rw [← i1 k n (by omega) (by omega)]
        have c1 := h1 k (by omega)
        have lb : 0 < b.length := by
          cases b with
          | nil => exact absurd rfl h0
          | cons _ _ => simp
        show Lshuntref01_Common_0s k (Lshuntref01_Common_0 k n) _ _ _ _ _ _ _ = _
        unfold Lshuntref01_Common_0s
        simp (config := { implicitDefEqProofs := false, maxSteps := 2000000 }) (disch := omega) only [ps, ↓reduceIte, reduceCtorEq, Int.reduceLT, Int.reduceLE, Int.reduceEq, Nat.reduceLT, Nat.reduceLeDiff, Nat.reduceEqDiff, Int.reduceNeg, eitherK, c1]
      · rw [i3, hvr, ← hR]
        obtain ⟨A, hA⟩ := Int.eq_ofNat_of_zero_le pa
        obtain ⟨B, hB⟩ := Int.eq_ofNat_of_zero_le (Int.le_of_lt pb)
        rw [hA, hB]
        show (((Int.gcd (B : Int) ((A % B : Nat) : Int)) : Nat) : Int) = _
        rw [Int.gcd_natCast_natCast, Int.gcd_natCast_natCast, Nat.gcd_comm, ← Nat.gcd_rec, Nat.gcd_comm]
theorem Common_ev (a0 b0 : Bool) (a1 b1 : List Int) {x y : Int} (nx : Nm U a0 a1 x) (ny : Nm U b0 b1 y) (hx : a1.length ≤ 800000) (hy : b1.length ≤ 800000) :
    ∃ l, Rn (fun k => Fshuntref01_Common k a0 a1 b0 b1) (false, l) ∧ Nm U false l (Int.gcd x y) ∧ l.length ≤ max a1.length b1.length := by
  obtain ⟨N, hN⟩ := Int.eq_ofNat_of_zero_le (V_nonneg (B := U) (by decide) ny.c.1)
  obtain ⟨l, b', ⟨K, h1⟩, h2, h3, h4⟩ := common_loop false 0 [] (max a1.length b1.length) (by omega) N a1 b1 (by omega) nx.c ny.c (by omega) (by omega)
  have e : (Int.gcd (V U a1) (V U b1) : Int) = Int.gcd x y := by
    have e1 := nx.z
    have e2 := ny.z
    rw [← e1, ← e2]
    cases a0 <;> cases b0 <;> simp
  refine ⟨l, Rn.up (f := fun k => Fshuntref01_Common k a0 a1 b0 b1) ?_, nm_pos h2 (by rw [h3, e]), h4⟩
  have q1 : Rn (fun k => Fshuntref01_Abs k a0 a1) (false, a1) := Rn.up (f := fun k => Fshuntref01_Abs k a0 a1) (Rn.pure _)
  have q2 : Rn (fun k => Fshuntref01_Abs k b0 b1) (false, b1) := Rn.up (f := fun k => Fshuntref01_Abs k b0 b1) (Rn.pure _)
  refine Rn.bind (f := fun k => Fshuntref01_Abs k a0 a1) q1 (Rn.bind q2 ?_)
  exact Rn.bind (x := (false, l, false, b', false, 0, [])) (Rn.eq (K + N + 1) fun k hk => h1 k k (by omega) (by omega)) (Rn.pure _)
section
variable {a0 b0 : Bool} {a1 b1 : List Int} (la : a1.length ≤ 9223372036854775807) (lb : b1.length ≤ 9223372036854775807) (da : Dg W a1) (db : Dg W b1)
include la lb da db
end
end Go.Proofs.Ytjgpegpjmkgkkaa.Am

/- Plain reckoning: right fractions, and the layer's calls of two of them. -/
set_option linter.unusedVariables false
set_option linter.unusedSectionVars false
set_option linter.unusedSimpArgs false
set_option maxRecDepth 10000
namespace Go.Proofs.Ytjgpegpjmkgkkaa.Am
open Go

/-- What a fraction is refused for. -/
def faultR (n0 : Bool) (n1 : List Int) (d0 : Bool) (d1 : List Int) : Int :=
  if Ri n0 n1 ∧ Ri d0 d1 then (if d0 = false ∧ d1 ≠ [] ∧ Int.gcd (Zv W n0 n1) (Zv W d0 d1) = 1 then 0 else 20) else 10
theorem zv_pos {d1 : List Int} {d0 : Bool} (h0 : d0 = false) (hne : d1 ≠ []) (cd : Cn W d1) : 0 < Zv W d0 d1 := by
  subst h0
  have p := V_nonneg (B := W) (by decide) cd.1
  have q := mt (cd.nil_iff (B := W) (by decide)).2 hne
  simp [Zv]; omega
theorem num_of_one {x y : Int} (hy : 0 < y) (hg : Int.gcd x y = 1) : (Rat.divInt x y).num = x ∧ ((Rat.divInt x y).den : Int) = y := by
  refine ⟨?_, ?_⟩
  · rw [num_eq x (by omega), if_neg (by omega), hg]; simp
  · rw [den_eq x (by omega), if_neg (by omega), hg]; simp
theorem fault_fr {n0 d0 : Bool} {n1 d1 : List Int} (dn : Dg W n1) (dd : Dg W d1) (h : faultR n0 n1 d0 d1 = 0) : ∃ q, Fr n0 n1 d0 d1 q ∧ n1.length ≤ 72 ∧ d1.length ≤ 72 := by
  unfold faultR at h
  split at h
  · rename_i hr
    split at h
    · rename_i hc
      obtain ⟨h1, h2, h3⟩ := hc
      have a := hr.1.nm dn
      have b := hr.2.nm dd
      obtain ⟨e1, e2⟩ := num_of_one (zv_pos h1 h2 b.c) h3
      exact ⟨Rat.divInt (Zv W n0 n1) (Zv W d0 d1), ⟨a.cast e1.symm, b.cast e2.symm⟩, hr.1.1, hr.2.1⟩
    · cases h
  · cases h
theorem fr_fault {n0 d0 : Bool} {n1 d1 : List Int} {q : Rat} (h : Fr n0 n1 d0 d1 q) (l1 : n1.length ≤ 72) (l3 : d1.length ≤ 72) : faultR n0 n1 d0 d1 = 0 := by
  unfold faultR
  rw [if_pos ⟨h.1.ri l1, h.2.ri l3⟩, if_pos]
  refine ⟨h.d0, h.ne, ?_⟩
  rw [show Zv W n0 n1 = q.num from h.1.z, show Zv W d0 d1 = q.den from h.2.z]
  have := q.reduced
  show Nat.gcd q.num.natAbs (q.den : Int).natAbs = 1
  rw [Int.natAbs_natCast]
  exact this
theorem one_iff {l : List Int} {g : Nat} (h : Nm W false l g) : l = [1] ↔ g = 1 := by
  have hc : Cn W [1] := ⟨Dg.cons (by decide) Dg.nil, rfl⟩
  have hv := h.abs (by decide)
  constructor
  · rintro rfl
    simp [V] at hv
    omega
  · rintro rfl
    refine Cn.ext (B := W) (by decide) h.c hc ?_
    rw [hv]; simp [V]
section
variable {n0 d0 : Bool} {n1 d1 : List Int} (la : n1.length ≤ 9223372036854775807) (lb : d1.length ≤ 9223372036854775807) (da : Dg W n1) (db : Dg W d1)
include la lb da db
theorem ratCheck_ev : Rn (fun k => Frat_Check k n0 n1 d0 d1) (faultR n0 n1 d0 d1) := by
  refine Rn.up (f := fun k => Frat_Check k n0 n1 d0 d1) ?_
  show Rn (fun k => brat_Check k n0 n1 d0 d1) _
  unfold brat_Check
  refine Rn.bind (check_ev n0 n1 la da) ?_
  by_cases hn : Ri n0 n1
  case neg =>
    have e : faultR n0 n1 d0 d1 = 10 := if_neg (fun c => hn c.1)
    rw [e, if_neg hn]
    (first | (refine Rn.t ?hc ?_; case hc => simp (config := { implicitDefEqProofs := false, maxSteps := 2000000 }) (disch := omega) only [ps, ↓reduceIte, reduceCtorEq, Int.reduceLT, Int.reduceLE, Int.reduceEq, Nat.reduceLT, Nat.reduceLeDiff, Nat.reduceEqDiff, Int.reduceNeg, eitherK]) | (refine Rn.f ?hc ?_; case hc => simp (config := { implicitDefEqProofs := false, maxSteps := 2000000 }) (disch := omega) only [ps, ↓reduceIte, reduceCtorEq, Int.reduceLT, Int.reduceLE, Int.reduceEq, Nat.reduceLT, Nat.reduceLeDiff, Nat.reduceEqDiff, Int.reduceNeg, eitherK]))
    exact Rn.pure _
  rw [if_pos hn]
  (first | (refine Rn.t ?hc ?_; case hc => simp (config := { implicitDefEqProofs := false, maxSteps := 2000000 }) (disch := omega) only [ps, ↓reduceIte, reduceCtorEq, Int.reduceLT, Int.reduceLE, Int.reduceEq, Nat.reduceLT, Nat.reduceLeDiff, Nat.reduceEqDiff, Int.reduceNeg, eitherK]) | (refine Rn.f ?hc ?_; case hc => simp (config := { implicitDefEqProofs := false, maxSteps := 2000000 }) (disch := omega) only [ps, ↓reduceIte, reduceCtorEq, Int.reduceLT, Int.reduceLE, Int.reduceEq, Nat.reduceLT, Nat.reduceLeDiff, Nat.reduceEqDiff, Int.reduceNeg, eitherK]))
  refine Rn.bind (check_ev d0 d1 lb db) ?_
  by_cases hd : Ri d0 d1
  case neg =>
    have e : faultR n0 n1 d0 d1 = 10 := if_neg (fun c => hd c.2)
    rw [e, if_neg hd]
    (first | (refine Rn.t ?hc ?_; case hc => simp (config := { implicitDefEqProofs := false, maxSteps := 2000000 }) (disch := omega) only [ps, ↓reduceIte, reduceCtorEq, Int.reduceLT, Int.reduceLE, Int.reduceEq, Nat.reduceLT, Nat.reduceLeDiff, Nat.reduceEqDiff, Int.reduceNeg, eitherK]) | (refine Rn.f ?hc ?_; case hc => simp (config := { implicitDefEqProofs := false, maxSteps := 2000000 }) (disch := omega) only [ps, ↓reduceIte, reduceCtorEq, Int.reduceLT, Int.reduceLE, Int.reduceEq, Nat.reduceLT, Nat.reduceLeDiff, Nat.reduceEqDiff, Int.reduceNeg, eitherK]))
    exact Rn.pure _
  rw [if_pos hd]
  (first | (refine Rn.t ?hc ?_; case hc => simp (config := { implicitDefEqProofs := false, maxSteps := 2000000 }) (disch := omega) only [ps, ↓reduceIte, reduceCtorEq, Int.reduceLT, Int.reduceLE, Int.reduceEq, Nat.reduceLT, Nat.reduceLeDiff, Nat.reduceEqDiff, Int.reduceNeg, eitherK]) | (refine Rn.f ?hc ?_; case hc => simp (config := { implicitDefEqProofs := false, maxSteps := 2000000 }) (disch := omega) only [ps, ↓reduceIte, reduceCtorEq, Int.reduceLT, Int.reduceLE, Int.reduceEq, Nat.reduceLT, Nat.reduceLeDiff, Nat.reduceEqDiff, Int.reduceNeg, eitherK]))
  have e0 : faultR n0 n1 d0 d1 = if d0 = false ∧ d1 ≠ [] ∧ Int.gcd (Zv W n0 n1) (Zv W d0 d1) = 1 then 0 else 20 := if_pos ⟨hn, hd⟩
  cases d0
  case true =>
    rw [e0.trans (if_neg (fun c => by cases c.1))]
    (first | (refine Rn.t ?hc ?_; case hc => simp (config := { implicitDefEqProofs := false, maxSteps := 2000000 }) (disch := omega) only [ps, ↓reduceIte, reduceCtorEq, Int.reduceLT, Int.reduceLE, Int.reduceEq, Nat.reduceLT, Nat.reduceLeDiff, Nat.reduceEqDiff, Int.reduceNeg, eitherK]) | (refine Rn.f ?hc ?_; case hc => simp (config := { implicitDefEqProofs := false, maxSteps := 2000000 }) (disch := omega) only [ps, ↓reduceIte, reduceCtorEq, Int.reduceLT, Int.reduceLE, Int.reduceEq, Nat.reduceLT, Nat.reduceLeDiff, Nat.reduceEqDiff, Int.reduceNeg, eitherK]))
    exact Rn.pure _
  (first | (refine Rn.t ?hc ?_; case hc => simp (config := { implicitDefEqProofs := false, maxSteps := 2000000 }) (disch := omega) only [ps, ↓reduceIte, reduceCtorEq, Int.reduceLT, Int.reduceLE, Int.reduceEq, Nat.reduceLT, Nat.reduceLeDiff, Nat.reduceEqDiff, Int.reduceNeg, eitherK]) | (refine Rn.f ?hc ?_; case hc => simp (config := { implicitDefEqProofs := false, maxSteps := 2000000 }) (disch := omega) only [ps, ↓reduceIte, reduceCtorEq, Int.reduceLT, Int.reduceLE, Int.reduceEq, Nat.reduceLT, Nat.reduceLeDiff, Nat.reduceEqDiff, Int.reduceNeg, eitherK]))
  by_cases h0 : d1 = []
  · rw [e0.trans (if_neg (fun c => c.2.1 h0))]
    subst h0
    (first | (refine Rn.t ?hc ?_; case hc => simp (config := { implicitDefEqProofs := false, maxSteps := 2000000 }) (disch := omega) only [ps, ↓reduceIte, reduceCtorEq, Int.reduceLT, Int.reduceLE, Int.reduceEq, Nat.reduceLT, Nat.reduceLeDiff, Nat.reduceEqDiff, Int.reduceNeg, eitherK]) | (refine Rn.f ?hc ?_; case hc => simp (config := { implicitDefEqProofs := false, maxSteps := 2000000 }) (disch := omega) only [ps, ↓reduceIte, reduceCtorEq, Int.reduceLT, Int.reduceLE, Int.reduceEq, Nat.reduceLT, Nat.reduceLeDiff, Nat.reduceEqDiff, Int.reduceNeg, eitherK]))
    exact Rn.pure _
  · have l0 : 0 < d1.length := by
      cases d1 with
      | nil => exact absurd rfl h0
      | cons _ _ => simp
    (first | (refine Rn.t ?hc ?_; case hc => simp (config := { implicitDefEqProofs := false, maxSteps := 2000000 }) (disch := omega) only [ps, ↓reduceIte, reduceCtorEq, Int.reduceLT, Int.reduceLE, Int.reduceEq, Nat.reduceLT, Nat.reduceLeDiff, Nat.reduceEqDiff, Int.reduceNeg, eitherK]) | (refine Rn.f ?hc ?_; case hc => simp (config := { implicitDefEqProofs := false, maxSteps := 2000000 }) (disch := omega) only [ps, ↓reduceIte, reduceCtorEq, Int.reduceLT, Int.reduceLE, Int.reduceEq, Nat.reduceLT, Nat.reduceLeDiff, Nat.reduceEqDiff, Int.reduceNeg, eitherK]))
    obtain ⟨l, g1, g2, g3⟩ := limbGcd_ev la lb da db hn hd
    refine Rn.bind g1 ?_
    have ho := one_iff g2
    by_cases hg : Int.gcd (Zv W n0 n1) (Zv W false d1) = 1
    · rw [e0.trans (if_pos ⟨rfl, h0, hg⟩)]
      have hl := ho.2 hg
      subst hl
      (first | (refine Rn.t ?hc ?_; case hc => simp (config := { implicitDefEqProofs := false, maxSteps := 2000000 }) (disch := omega) only [ps, ↓reduceIte, reduceCtorEq, Int.reduceLT, Int.reduceLE, Int.reduceEq, Nat.reduceLT, Nat.reduceLeDiff, Nat.reduceEqDiff, Int.reduceNeg, eitherK, List.length_cons]) | (refine Rn.f ?hc ?_; case hc => simp (config := { implicitDefEqProofs := false, maxSteps := 2000000 }) (disch := omega) only [ps, ↓reduceIte, reduceCtorEq, Int.reduceLT, Int.reduceLE, Int.reduceEq, Nat.reduceLT, Nat.reduceLeDiff, Nat.reduceEqDiff, Int.reduceNeg, eitherK, List.length_cons]))
      refine Rn.at (x := 1) rfl ?_
      (first | (refine Rn.t ?hc ?_; case hc => simp (config := { implicitDefEqProofs := false, maxSteps := 2000000 }) (disch := omega) only [ps, ↓reduceIte, reduceCtorEq, Int.reduceLT, Int.reduceLE, Int.reduceEq, Nat.reduceLT, Nat.reduceLeDiff, Nat.reduceEqDiff, Int.reduceNeg, eitherK]) | (refine Rn.f ?hc ?_; case hc => simp (config := { implicitDefEqProofs := false, maxSteps := 2000000 }) (disch := omega) only [ps, ↓reduceIte, reduceCtorEq, Int.reduceLT, Int.reduceLE, Int.reduceEq, Nat.reduceLT, Nat.reduceLeDiff, Nat.reduceEqDiff, Int.reduceNeg, eitherK]))
      exact Rn.pure _
    · rw [e0.trans (if_neg (fun c => hg c.2.2))]
      by_cases hlen : l.length = 1
      · obtain ⟨x, rfl⟩ : ∃ x, l = [x] := by
          match l, hlen with
          | [x], _ => exact ⟨x, rfl⟩
        (first | (refine Rn.t ?hc ?_; case hc => simp (config := { implicitDefEqProofs := false, maxSteps := 2000000 }) (disch := omega) only [ps, ↓reduceIte, reduceCtorEq, Int.reduceLT, Int.reduceLE, Int.reduceEq, Nat.reduceLT, Nat.reduceLeDiff, Nat.reduceEqDiff, Int.reduceNeg, eitherK, List.length_cons]) | (refine Rn.f ?hc ?_; case hc => simp (config := { implicitDefEqProofs := false, maxSteps := 2000000 }) (disch := omega) only [ps, ↓reduceIte, reduceCtorEq, Int.reduceLT, Int.reduceLE, Int.reduceEq, Nat.reduceLT, Nat.reduceLeDiff, Nat.reduceEqDiff, Int.reduceNeg, eitherK, List.length_cons]))
        refine Rn.at (x := x) rfl ?_
        have hx : x ≠ 1 := fun h => hg (ho.1 (by rw [h]))
        (first | (refine Rn.t ?hc ?_; case hc => simp (config := { implicitDefEqProofs := false, maxSteps := 2000000 }) (disch := omega) only [ps, ↓reduceIte, reduceCtorEq, Int.reduceLT, Int.reduceLE, Int.reduceEq, Nat.reduceLT, Nat.reduceLeDiff, Nat.reduceEqDiff, Int.reduceNeg, eitherK]) | (refine Rn.f ?hc ?_; case hc => simp (config := { implicitDefEqProofs := false, maxSteps := 2000000 }) (disch := omega) only [ps, ↓reduceIte, reduceCtorEq, Int.reduceLT, Int.reduceLE, Int.reduceEq, Nat.reduceLT, Nat.reduceLeDiff, Nat.reduceEqDiff, Int.reduceNeg, eitherK]))
        exact Rn.pure _
      · (first | (refine Rn.t ?hc ?_; case hc => simp (config := { implicitDefEqProofs := false, maxSteps := 2000000 }) (disch := omega) only [ps, ↓reduceIte, reduceCtorEq, Int.reduceLT, Int.reduceLE, Int.reduceEq, Nat.reduceLT, Nat.reduceLeDiff, Nat.reduceEqDiff, Int.reduceNeg, eitherK]) | (refine Rn.f ?hc ?_; case hc => simp (config := { implicitDefEqProofs := false, maxSteps := 2000000 }) (disch := omega) only [ps, ↓reduceIte, reduceCtorEq, Int.reduceLT, Int.reduceLE, Int.reduceEq, Nat.reduceLT, Nat.reduceLeDiff, Nat.reduceEqDiff, Int.reduceNeg, eitherK]))
        exact Rn.pure _
theorem refFault_ev : Rn (fun k => Fshuntref02_Fault k n0 n1 d0 d1) (faultR n0 n1 d0 d1) := by
  refine Rn.up (f := fun k => Fshuntref02_Fault k n0 n1 d0 d1) ?_
  show Rn (fun k => bshuntref02_Fault k n0 n1 d0 d1) _
  unfold bshuntref02_Fault
  refine Rn.bind (right_ev n0 n1 la da) ?_
  by_cases hn : Ri n0 n1
  case neg =>
    have e : faultR n0 n1 d0 d1 = 10 := if_neg (fun c => hn c.1)
    rw [e]
    (first | (refine Rn.t ?hc ?_; case hc => simp (config := { implicitDefEqProofs := false, maxSteps := 2000000 }) (disch := omega) only [ps, ↓reduceIte, reduceCtorEq, Int.reduceLT, Int.reduceLE, Int.reduceEq, Nat.reduceLT, Nat.reduceLeDiff, Nat.reduceEqDiff, Int.reduceNeg, eitherK, hn, decide_false]) | (refine Rn.f ?hc ?_; case hc => simp (config := { implicitDefEqProofs := false, maxSteps := 2000000 }) (disch := omega) only [ps, ↓reduceIte, reduceCtorEq, Int.reduceLT, Int.reduceLE, Int.reduceEq, Nat.reduceLT, Nat.reduceLeDiff, Nat.reduceEqDiff, Int.reduceNeg, eitherK, hn, decide_false]))
    exact Rn.pure _
  (first | (refine Rn.t ?hc ?_; case hc => simp (config := { implicitDefEqProofs := false, maxSteps := 2000000 }) (disch := omega) only [ps, ↓reduceIte, reduceCtorEq, Int.reduceLT, Int.reduceLE, Int.reduceEq, Nat.reduceLT, Nat.reduceLeDiff, Nat.reduceEqDiff, Int.reduceNeg, eitherK, hn, decide_true]) | (refine Rn.f ?hc ?_; case hc => simp (config := { implicitDefEqProofs := false, maxSteps := 2000000 }) (disch := omega) only [ps, ↓reduceIte, reduceCtorEq, Int.reduceLT, Int.reduceLE, Int.reduceEq, Nat.reduceLT, Nat.reduceLeDiff, Nat.reduceEqDiff, Int.reduceNeg, eitherK, hn, decide_true]))
  refine Rn.bind (right_ev d0 d1 lb db) ?_
  by_cases hd : Ri d0 d1
  case neg =>
    have e : faultR n0 n1 d0 d1 = 10 := if_neg (fun c => hd c.2)
    rw [e]
    (first | (refine Rn.t ?hc ?_; case hc => simp (config := { implicitDefEqProofs := false, maxSteps := 2000000 }) (disch := omega) only [ps, ↓reduceIte, reduceCtorEq, Int.reduceLT, Int.reduceLE, Int.reduceEq, Nat.reduceLT, Nat.reduceLeDiff, Nat.reduceEqDiff, Int.reduceNeg, eitherK, hd, decide_false]) | (refine Rn.f ?hc ?_; case hc => simp (config := { implicitDefEqProofs := false, maxSteps := 2000000 }) (disch := omega) only [ps, ↓reduceIte, reduceCtorEq, Int.reduceLT, Int.reduceLE, Int.reduceEq, Nat.reduceLT, Nat.reduceLeDiff, Nat.reduceEqDiff, Int.reduceNeg, eitherK, hd, decide_false]))
    exact Rn.pure _
  (first | (refine Rn.t ?hc ?_; case hc => simp (config := { implicitDefEqProofs := false, maxSteps := 2000000 }) (disch := omega) only [ps, ↓reduceIte, reduceCtorEq, Int.reduceLT, Int.reduceLE, Int.reduceEq, Nat.reduceLT, Nat.reduceLeDiff, Nat.reduceEqDiff, Int.reduceNeg, eitherK, hd, decide_true]) | (refine Rn.f ?hc ?_; case hc => simp (config := { implicitDefEqProofs := false, maxSteps := 2000000 }) (disch := omega) only [ps, ↓reduceIte, reduceCtorEq, Int.reduceLT, Int.reduceLE, Int.reduceEq, Nat.reduceLT, Nat.reduceLeDiff, Nat.reduceEqDiff, Int.reduceNeg, eitherK, hd, decide_true]))
  have e0 : faultR n0 n1 d0 d1 = if d0 = false ∧ d1 ≠ [] ∧ Int.gcd (Zv W n0 n1) (Zv W d0 d1) = 1 then 0 else 20 := if_pos ⟨hn, hd⟩
  cases d0
  case true =>
    rw [e0.trans (if_neg (fun c => by cases c.1))]
    (first | (refine Rn.t ?hc ?_; case hc => simp (config := { implicitDefEqProofs := false, maxSteps := 2000000 }) (disch := omega) only [ps, ↓reduceIte, reduceCtorEq, Int.reduceLT, Int.reduceLE, Int.reduceEq, Nat.reduceLT, Nat.reduceLeDiff, Nat.reduceEqDiff, Int.reduceNeg, eitherK]) | (refine Rn.f ?hc ?_; case hc => simp (config := { implicitDefEqProofs := false, maxSteps := 2000000 }) (disch := omega) only [ps, ↓reduceIte, reduceCtorEq, Int.reduceLT, Int.reduceLE, Int.reduceEq, Nat.reduceLT, Nat.reduceLeDiff, Nat.reduceEqDiff, Int.reduceNeg, eitherK]))
    exact Rn.pure _
  (first | (refine Rn.t ?hc ?_; case hc => simp (config := { implicitDefEqProofs := false, maxSteps := 2000000 }) (disch := omega) only [ps, ↓reduceIte, reduceCtorEq, Int.reduceLT, Int.reduceLE, Int.reduceEq, Nat.reduceLT, Nat.reduceLeDiff, Nat.reduceEqDiff, Int.reduceNeg, eitherK]) | (refine Rn.f ?hc ?_; case hc => simp (config := { implicitDefEqProofs := false, maxSteps := 2000000 }) (disch := omega) only [ps, ↓reduceIte, reduceCtorEq, Int.reduceLT, Int.reduceLE, Int.reduceEq, Nat.reduceLT, Nat.reduceLeDiff, Nat.reduceEqDiff, Int.reduceNeg, eitherK]))
  by_cases h0 : d1 = []
  · rw [e0.trans (if_neg (fun c => c.2.1 h0))]
    subst h0
    (first | (refine Rn.t ?hc ?_; case hc => simp (config := { implicitDefEqProofs := false, maxSteps := 2000000 }) (disch := omega) only [ps, ↓reduceIte, reduceCtorEq, Int.reduceLT, Int.reduceLE, Int.reduceEq, Nat.reduceLT, Nat.reduceLeDiff, Nat.reduceEqDiff, Int.reduceNeg, eitherK]) | (refine Rn.f ?hc ?_; case hc => simp (config := { implicitDefEqProofs := false, maxSteps := 2000000 }) (disch := omega) only [ps, ↓reduceIte, reduceCtorEq, Int.reduceLT, Int.reduceLE, Int.reduceEq, Nat.reduceLT, Nat.reduceLeDiff, Nat.reduceEqDiff, Int.reduceNeg, eitherK]))
    exact Rn.pure _
  · have l0 : 0 < d1.length := by
      cases d1 with
      | nil => exact absurd rfl h0
      | cons _ _ => simp
    have k1 := hn.1
    have k2 := hd.1
    (first | (refine Rn.t ?hc ?_; case hc => simp (config := { implicitDefEqProofs := false, maxSteps := 2000000 }) (disch := omega) only [ps, ↓reduceIte, reduceCtorEq, Int.reduceLT, Int.reduceLE, Int.reduceEq, Nat.reduceLT, Nat.reduceLeDiff, Nat.reduceEqDiff, Int.reduceNeg, eitherK]) | (refine Rn.f ?hc ?_; case hc => simp (config := { implicitDefEqProofs := false, maxSteps := 2000000 }) (disch := omega) only [ps, ↓reduceIte, reduceCtorEq, Int.reduceLT, Int.reduceLE, Int.reduceEq, Nat.reduceLT, Nat.reduceLeDiff, Nat.reduceEqDiff, Int.reduceNeg, eitherK]))
    obtain ⟨l1, p1, p2, p3⟩ := rTake_ev n0 n1 (by omega) (hn.nm da)
    obtain ⟨l2, q1, q2, q3⟩ := rTake_ev false d1 (by omega) (hd.nm db)
    obtain ⟨l, r1, r2, r3⟩ := Common_ev n0 false l1 l2 p2 q2 (by omega) (by omega)
    obtain ⟨o, s1, s2, s3⟩ := Small_ev 1 (by decide)
    have hh := Held_ev false (decide ((1 : Int) < 0)) l o r2 s2 (by omega) (by omega)
    refine Rn.bind p1 (Rn.bind q1 (Rn.bind r1 (Rn.bind s1 (Rn.bind hh ?_))))
    obtain ⟨c, hc, hcc⟩ := cmpZ_cases ((Int.gcd (Zv W n0 n1) (Zv W false d1) : Nat) : Int) 1
    rw [hc]
    by_cases hg : Int.gcd (Zv W n0 n1) (Zv W false d1) = 1
    · rw [e0.trans (if_pos ⟨rfl, h0, hg⟩)]
      (first | (refine Rn.t ?hc ?_; case hc => simp (config := { implicitDefEqProofs := false, maxSteps := 2000000 }) (disch := omega) only [ps, ↓reduceIte, reduceCtorEq, Int.reduceLT, Int.reduceLE, Int.reduceEq, Nat.reduceLT, Nat.reduceLeDiff, Nat.reduceEqDiff, Int.reduceNeg, eitherK]) | (refine Rn.f ?hc ?_; case hc => simp (config := { implicitDefEqProofs := false, maxSteps := 2000000 }) (disch := omega) only [ps, ↓reduceIte, reduceCtorEq, Int.reduceLT, Int.reduceLE, Int.reduceEq, Nat.reduceLT, Nat.reduceLeDiff, Nat.reduceEqDiff, Int.reduceNeg, eitherK]))
      exact Rn.pure _
    · rw [e0.trans (if_neg (fun c => hg c.2.2))]
      (first | (refine Rn.t ?hc ?_; case hc => simp (config := { implicitDefEqProofs := false, maxSteps := 2000000 }) (disch := omega) only [ps, ↓reduceIte, reduceCtorEq, Int.reduceLT, Int.reduceLE, Int.reduceEq, Nat.reduceLT, Nat.reduceLeDiff, Nat.reduceEqDiff, Int.reduceNeg, eitherK]) | (refine Rn.f ?hc ?_; case hc => simp (config := { implicitDefEqProofs := false, maxSteps := 2000000 }) (disch := omega) only [ps, ↓reduceIte, reduceCtorEq, Int.reduceLT, Int.reduceLE, Int.reduceEq, Nat.reduceLT, Nat.reduceLeDiff, Nat.reduceEqDiff, Int.reduceNeg, eitherK]))
      exact Rn.pure _
end
/-- A fraction's words, as a list's element. -/
abbrev RT := (Bool × List Int) × Bool × List Int
def RT.f (r : RT) : Int := faultR r.1.1 r.1.2 r.2.1 r.2.2
def RT.good (r : RT) : Prop := (r.1.2.length ≤ 9223372036854775807 ∧ Dg W r.1.2) ∧ r.2.2.length ≤ 9223372036854775807 ∧ Dg W r.2.2
section
variable {x0 x2 y0 y2 : Bool} {x1 x3 y1 y3 : List Int} {x y : Rat} (hx : Fr x0 x1 x2 x3 x) (hy : Fr y0 y1 y2 y3 y) (l1 : x1.length ≤ 72) (l3 : x3.length ≤ 72) (m1 : y1.length ≤ 72) (m3 : y3.length ≤ 72)
include hx hy l1 l3 m1 m3
end
end Go.Proofs.Ytjgpegpjmkgkkaa.Am

/- Plain reckoning: fractions made, held against one another, and of small numbers. -/
set_option linter.unusedVariables false
set_option linter.unusedSectionVars false
set_option linter.unusedSimpArgs false
set_option maxRecDepth 10000
namespace Go.Proofs.Ytjgpegpjmkgkkaa.Am
open Go

theorem ratMake_ev {n0 d0 : Bool} {n1 d1 : List Int} {x y : Int} (nx : Nm W n0 n1 x) (ny : Nm W d0 d1 y) (hx : n1.length ≤ 72) (hy : d1.length ≤ 72) (hy0 : y ≠ 0) :
    ∃ s p t r, Rn (fun k => Frat_Make k n0 n1 d0 d1) (s, p, t, r, 0) ∧ Fr s p t r (Rat.divInt x y) ∧ p.length ≤ n1.length ∧ r.length ≤ d1.length := by
  obtain ⟨s, p, t, r, e1, e2, e3, e4⟩ := Frac_ev n0 d0 n1 d1 nx ny (by omega) (by omega) hy0
  refine ⟨s, p, t, r, Rn.up (f := fun k => Frat_Make k n0 n1 d0 d1) ?_, e2, e3, e4⟩
  show Rn (fun k => brat_Make k n0 n1 d0 d1) _
  unfold brat_Make
  have c1 := check_ev n0 n1 (by omega) nx.c.1
  have c2 := check_ev d0 d1 (by omega) ny.c.1
  rw [if_pos (nx.ri hx)] at c1
  rw [if_pos (ny.ri hy)] at c2
  have hl : 0 < d1.length := by
    cases d1 with
    | nil =>
      have := ny.z
      simp only [V] at this
      exact absurd (by cases d0 <;> simp at this <;> omega) hy0
    | cons _ _ => simp
  refine Rn.bind c1 ?_
  (first | (refine Rn.t ?hc ?_; case hc => simp (config := { implicitDefEqProofs := false, maxSteps := 2000000 }) (disch := omega) only [ps, ↓reduceIte, reduceCtorEq, Int.reduceLT, Int.reduceLE, Int.reduceEq, Nat.reduceLT, Nat.reduceLeDiff, Nat.reduceEqDiff, Int.reduceNeg, eitherK]) | (refine Rn.f ?hc ?_; case hc => simp (config := { implicitDefEqProofs := false, maxSteps := 2000000 }) (disch := omega) only [ps, ↓reduceIte, reduceCtorEq, Int.reduceLT, Int.reduceLE, Int.reduceEq, Nat.reduceLT, Nat.reduceLeDiff, Nat.reduceEqDiff, Int.reduceNeg, eitherK]))
  refine Rn.bind c2 ?_
  (first | (refine Rn.t ?hc ?_; case hc => simp (config := { implicitDefEqProofs := false, maxSteps := 2000000 }) (disch := omega) only [ps, ↓reduceIte, reduceCtorEq, Int.reduceLT, Int.reduceLE, Int.reduceEq, Nat.reduceLT, Nat.reduceLeDiff, Nat.reduceEqDiff, Int.reduceNeg, eitherK]) | (refine Rn.f ?hc ?_; case hc => simp (config := { implicitDefEqProofs := false, maxSteps := 2000000 }) (disch := omega) only [ps, ↓reduceIte, reduceCtorEq, Int.reduceLT, Int.reduceLE, Int.reduceEq, Nat.reduceLT, Nat.reduceLeDiff, Nat.reduceEqDiff, Int.reduceNeg, eitherK]))
  (first | (refine Rn.t ?hc ?_; case hc => simp (config := { implicitDefEqProofs := false, maxSteps := 2000000 }) (disch := omega) only [ps, ↓reduceIte, reduceCtorEq, Int.reduceLT, Int.reduceLE, Int.reduceEq, Nat.reduceLT, Nat.reduceLeDiff, Nat.reduceEqDiff, Int.reduceNeg, eitherK]) | (refine Rn.f ?hc ?_; case hc => simp (config := { implicitDefEqProofs := false, maxSteps := 2000000 }) (disch := omega) only [ps, ↓reduceIte, reduceCtorEq, Int.reduceLT, Int.reduceLE, Int.reduceEq, Nat.reduceLT, Nat.reduceLeDiff, Nat.reduceEqDiff, Int.reduceNeg, eitherK]))
  have t1 := Take_nm nx (by omega)
  have t3 := Take_nm ny (by omega)
  have wa := rAnswer_ev e2 (by omega) (by omega)
  have ea : ansR s p t r = (s, p, t, r, 0) := if_pos ⟨by omega, by omega⟩
  rw [ea] at wa
  exact Rn.bind t1 (Rn.bind t3 (Rn.bind e1 (Rn.bind wa (Rn.pure _))))
theorem same2_ev (a0 a2 b0 b2 : Bool) (a1 a3 b1 b3 : List Int) (h1 : a1.length ≤ 9223372036854775806) (h3 : a3.length ≤ 9223372036854775806) :
    Rn (fun k => Fshuntlaw02_same k a0 a1 a2 a3 b0 b1 b2 b3) (decide (a0 = b0 ∧ a1 = b1 ∧ a2 = b2 ∧ a3 = b3)) := by
  have hs : Rn (fun k => Fshuntref02_Same k a0 a1 a2 a3 b0 b1 b2 b3) (decide (a0 = b0 ∧ a1 = b1 ∧ a2 = b2 ∧ a3 = b3)) := by
    refine Rn.up (f := fun k => Fshuntref02_Same k a0 a1 a2 a3 b0 b1 b2 b3) ?_
    show Rn (fun k => bshuntref02_Same k a0 a1 a2 a3 b0 b1 b2 b3) _
    unfold bshuntref02_Same
    refine Rn.bind (refSame_ev a0 b0 a1 b1 h1) ?_
    by_cases h : a0 = b0 ∧ a1 = b1
    · refine Rn.t (decide_eq_true h) ?_
      refine Rn.bind (refSame_ev a2 b2 a3 b3 h3) ?_
      have e : decide (a0 = b0 ∧ a1 = b1 ∧ a2 = b2 ∧ a3 = b3) = decide (a2 = b2 ∧ a3 = b3) := by simp [h.1, h.2]
      rw [e]
      exact Rn.pure _
    · refine Rn.f (by simpa using h) ?_
      have e : decide (a0 = b0 ∧ a1 = b1 ∧ a2 = b2 ∧ a3 = b3) = false := by
        rw [decide_eq_false_iff_not]
        rintro ⟨c1, c2, _⟩
        exact h ⟨c1, c2⟩
      rw [e]
      exact Rn.pure _
  exact Rn.up (f := fun k => Fshuntlaw02_same k a0 a1 a2 a3 b0 b1 b2 b3) (Rn.bind hs (Rn.pure _))
theorem same2_t (a0 a2 : Bool) (a1 a3 : List Int) (h1 : a1.length ≤ 9223372036854775806) (h3 : a3.length ≤ 9223372036854775806) :
    Rn (fun k => Fshuntlaw02_same k a0 a1 a2 a3 a0 a1 a2 a3) true := by
  have := same2_ev a0 a2 a0 a2 a1 a3 a1 a3 h1 h3
  simpa using this
/-- The words of a law's fraction, opened. -/
theorem rt_good {x : RT} (w : Wfd (.pr (.pr .bool (.sl (.int .u32))) (.pr .bool (.sl (.int .u32)))) x) : x.good := by
  obtain ⟨d1, l1⟩ := dg_of w.1.2
  obtain ⟨d3, l3⟩ := dg_of w.2.2
  exact ⟨⟨l1, d1⟩, l3, d3⟩
end Go.Proofs.Ytjgpegpjmkgkkaa.Am

/- A right fraction is made of its own parts, and of these both times the same: the plain statement. -/
set_option linter.unusedVariables false
set_option linter.unusedSimpArgs false
set_option maxRecDepth 10000
namespace Go.Proofs.Ytjgpegpjmkgkkaa.Am
open Go
theorem limbMul_of {a0 b0 : Bool} {a1 b1 : List Int} {x y : Int} (na : Nm W a0 a1 x) (nb : Nm W b0 b1 y) (l1 : a1.length ≤ 72) (l2 : b1.length ≤ 72) (hl : a1.length + b1.length ≤ 72) :
    ∃ s l, Rn (fun k => Flimb_Mul k a0 a1 b0 b1) (s, l, 0) ∧ Nm W s l (x * y) ∧ l.length ≤ a1.length + b1.length := by
  obtain ⟨s, l, h1, h2, h3⟩ := limbMul_ev na.c.1 nb.c.1 (na.ri l1) (nb.ri l2)
  have e : ans s l = (s, l, 0) := if_pos (by omega)
  rw [e] at h3
  rw [show Zv W a0 a1 = x from na.z, show Zv W b0 b1 = y from nb.z] at h1
  exact ⟨s, l, h3, h1, h2⟩
set_option maxHeartbeats 1000000 in
theorem pure_RatLowest (r : RT) (y : Bool × List Int) (wr : Wfd (.pr (.pr .bool (.sl (.int .u32))) (.pr .bool (.sl (.int .u32)))) r) (wy : Wfd (.pr .bool (.sl (.int .u32))) y) :
    ∃ k, Fshuntlaw02_RatLowest k r.1.1 r.1.2 r.2.1 r.2.2 y.1 y.2 = some true := by
  have g := rt_good wr
  obtain ⟨⟨r0, r1⟩, r2, r3⟩ := r
  obtain ⟨b0, b1⟩ := y
  obtain ⟨⟨la, da⟩, lb, db⟩ := g
  obtain ⟨dy, ly⟩ := dg_of wy.2
  simp only at da db la lb dy ly
  refine Rn.get (Rn.up (f := fun k => Fshuntlaw02_RatLowest k r0 r1 r2 r3 b0 b1) ?_)
  show Rn (fun k => bshuntlaw02_RatLowest k r0 r1 r2 r3 b0 b1) _
  unfold bshuntlaw02_RatLowest
  refine Rn.bind awake_ev ?_
  (first | (refine Rn.t ?hc ?_; case hc => simp (config := { implicitDefEqProofs := false, maxSteps := 2000000 }) (disch := omega) only [ps, ↓reduceIte, reduceCtorEq, Int.reduceLT, Int.reduceLE, Int.reduceEq, Nat.reduceLT, Nat.reduceLeDiff, Nat.reduceEqDiff, Int.reduceNeg, eitherK]) | (refine Rn.f ?hc ?_; case hc => simp (config := { implicitDefEqProofs := false, maxSteps := 2000000 }) (disch := omega) only [ps, ↓reduceIte, reduceCtorEq, Int.reduceLT, Int.reduceLE, Int.reduceEq, Nat.reduceLT, Nat.reduceLeDiff, Nat.reduceEqDiff, Int.reduceNeg, eitherK]))
  refine Rn.bind (refFault_ev la lb da db) ?_
  by_cases h0 : faultR r0 r1 r2 r3 = 0
  case neg => (first | (refine Rn.t ?hc ?_; case hc => simp (config := { implicitDefEqProofs := false, maxSteps := 2000000 }) (disch := omega) only [ps, ↓reduceIte, reduceCtorEq, Int.reduceLT, Int.reduceLE, Int.reduceEq, Nat.reduceLT, Nat.reduceLeDiff, Nat.reduceEqDiff, Int.reduceNeg, eitherK]) | (refine Rn.f ?hc ?_; case hc => simp (config := { implicitDefEqProofs := false, maxSteps := 2000000 }) (disch := omega) only [ps, ↓reduceIte, reduceCtorEq, Int.reduceLT, Int.reduceLE, Int.reduceEq, Nat.reduceLT, Nat.reduceLeDiff, Nat.reduceEqDiff, Int.reduceNeg, eitherK])); exact Rn.pure _
  (first | (refine Rn.t ?hc ?_; case hc => simp (config := { implicitDefEqProofs := false, maxSteps := 2000000 }) (disch := omega) only [ps, ↓reduceIte, reduceCtorEq, Int.reduceLT, Int.reduceLE, Int.reduceEq, Nat.reduceLT, Nat.reduceLeDiff, Nat.reduceEqDiff, Int.reduceNeg, eitherK]) | (refine Rn.f ?hc ?_; case hc => simp (config := { implicitDefEqProofs := false, maxSteps := 2000000 }) (disch := omega) only [ps, ↓reduceIte, reduceCtorEq, Int.reduceLT, Int.reduceLE, Int.reduceEq, Nat.reduceLT, Nat.reduceLeDiff, Nat.reduceEqDiff, Int.reduceNeg, eitherK]))
  obtain ⟨q, hq, k1, k3⟩ := fault_fr da db h0
  refine Rn.bind (right_ev b0 b1 ly dy) ?_
  by_cases hb : Ri b0 b1
  case neg => (first | (refine Rn.t ?hc ?_; case hc => simp (config := { implicitDefEqProofs := false, maxSteps := 2000000 }) (disch := omega) only [ps, ↓reduceIte, reduceCtorEq, Int.reduceLT, Int.reduceLE, Int.reduceEq, Nat.reduceLT, Nat.reduceLeDiff, Nat.reduceEqDiff, Int.reduceNeg, eitherK, hb, decide_false]) | (refine Rn.f ?hc ?_; case hc => simp (config := { implicitDefEqProofs := false, maxSteps := 2000000 }) (disch := omega) only [ps, ↓reduceIte, reduceCtorEq, Int.reduceLT, Int.reduceLE, Int.reduceEq, Nat.reduceLT, Nat.reduceLeDiff, Nat.reduceEqDiff, Int.reduceNeg, eitherK, hb, decide_false])); exact Rn.pure _
  (first | (refine Rn.t ?hc ?_; case hc => simp (config := { implicitDefEqProofs := false, maxSteps := 2000000 }) (disch := omega) only [ps, ↓reduceIte, reduceCtorEq, Int.reduceLT, Int.reduceLE, Int.reduceEq, Nat.reduceLT, Nat.reduceLeDiff, Nat.reduceEqDiff, Int.reduceNeg, eitherK, hb, decide_true]) | (refine Rn.f ?hc ?_; case hc => simp (config := { implicitDefEqProofs := false, maxSteps := 2000000 }) (disch := omega) only [ps, ↓reduceIte, reduceCtorEq, Int.reduceLT, Int.reduceLE, Int.reduceEq, Nat.reduceLT, Nat.reduceLeDiff, Nat.reduceEqDiff, Int.reduceNeg, eitherK, hb, decide_true]))
  have l2 := hb.1
  by_cases hb0 : b1.length = 0
  case pos => (first | (refine Rn.t ?hc ?_; case hc => simp (config := { implicitDefEqProofs := false, maxSteps := 2000000 }) (disch := omega) only [ps, ↓reduceIte, reduceCtorEq, Int.reduceLT, Int.reduceLE, Int.reduceEq, Nat.reduceLT, Nat.reduceLeDiff, Nat.reduceEqDiff, Int.reduceNeg, eitherK]) | (refine Rn.f ?hc ?_; case hc => simp (config := { implicitDefEqProofs := false, maxSteps := 2000000 }) (disch := omega) only [ps, ↓reduceIte, reduceCtorEq, Int.reduceLT, Int.reduceLE, Int.reduceEq, Nat.reduceLT, Nat.reduceLeDiff, Nat.reduceEqDiff, Int.reduceNeg, eitherK])); exact Rn.pure _
  (first | (refine Rn.t ?hc ?_; case hc => simp (config := { implicitDefEqProofs := false, maxSteps := 2000000 }) (disch := omega) only [ps, ↓reduceIte, reduceCtorEq, Int.reduceLT, Int.reduceLE, Int.reduceEq, Nat.reduceLT, Nat.reduceLeDiff, Nat.reduceEqDiff, Int.reduceNeg, eitherK]) | (refine Rn.f ?hc ?_; case hc => simp (config := { implicitDefEqProofs := false, maxSteps := 2000000 }) (disch := omega) only [ps, ↓reduceIte, reduceCtorEq, Int.reduceLT, Int.reduceLE, Int.reduceEq, Nat.reduceLT, Nat.reduceLeDiff, Nat.reduceEqDiff, Int.reduceNeg, eitherK]))
  by_cases h60 : (r1.length : Int) + r3.length + b1.length ≤ 60
  case neg => (first | (refine Rn.t ?hc ?_; case hc => simp (config := { implicitDefEqProofs := false, maxSteps := 2000000 }) (disch := omega) only [ps, ↓reduceIte, reduceCtorEq, Int.reduceLT, Int.reduceLE, Int.reduceEq, Nat.reduceLT, Nat.reduceLeDiff, Nat.reduceEqDiff, Int.reduceNeg, eitherK]) | (refine Rn.f ?hc ?_; case hc => simp (config := { implicitDefEqProofs := false, maxSteps := 2000000 }) (disch := omega) only [ps, ↓reduceIte, reduceCtorEq, Int.reduceLT, Int.reduceLE, Int.reduceEq, Nat.reduceLT, Nat.reduceLeDiff, Nat.reduceEqDiff, Int.reduceNeg, eitherK])); exact Rn.pure _
  (first | (refine Rn.t ?hc ?_; case hc => simp (config := { implicitDefEqProofs := false, maxSteps := 2000000 }) (disch := omega) only [ps, ↓reduceIte, reduceCtorEq, Int.reduceLT, Int.reduceLE, Int.reduceEq, Nat.reduceLT, Nat.reduceLeDiff, Nat.reduceEqDiff, Int.reduceNeg, eitherK]) | (refine Rn.f ?hc ?_; case hc => simp (config := { implicitDefEqProofs := false, maxSteps := 2000000 }) (disch := omega) only [ps, ↓reduceIte, reduceCtorEq, Int.reduceLT, Int.reduceLE, Int.reduceEq, Nat.reduceLT, Nat.reduceLeDiff, Nat.reduceEqDiff, Int.reduceNeg, eitherK]))
  have nb := hb.nm dy
  obtain ⟨y, hy⟩ : ∃ y, Zv W b0 b1 = y := ⟨_, rfl⟩
  rw [hy] at nb
  have hbn : b1 ≠ [] := by rintro rfl; exact hb0 rfl
  have hy0 : y ≠ 0 := by
    intro h
    rw [h] at nb
    exact hbn ((nb.c.nil_iff (B := W) (by decide)).2 (by rw [nb.abs (by decide)]; rfl))
  have hd := Rat.den_pos' q
  obtain ⟨s, p, t, u, a1, a2, a3, a4⟩ := ratMake_ev hq.1 hq.2 (by omega) (by omega) (by omega)
  rw [Rat.num_divInt_den] at a2
  obtain ⟨rfl, rfl, rfl, rfl⟩ := a2.ext hq
  obtain ⟨s2, n2, c1, c2, c3⟩ := limbMul_of hq.1 nb (by omega) (by omega) (by omega)
  obtain ⟨s3, n3, d1, d2, d3⟩ := limbMul_of nb hq.2 (by omega) (by omega) (by omega)
  have hyd : y * (q.den : Int) ≠ 0 := Int.mul_ne_zero hy0 (by omega)
  obtain ⟨s4, p4, t4, u4, e1, e2, e3, e4⟩ := ratMake_ev c2 d2 (by omega) (by omega) hyd
  have heq : Rat.divInt (q.num * y) (y * q.den) = q := by
    conv => rhs; rw [← Rat.num_divInt_den q]
    rw [Rat.divInt_eq_divInt_iff hyd (by omega)]
    grind
  rw [heq] at e2
  obtain ⟨rfl, rfl, rfl, rfl⟩ := e2.ext hq
  refine Rn.bind a1 (Rn.bind c1 (Rn.bind d1 (Rn.bind e1 ?_)))
  (first | (refine Rn.t ?hc ?_; case hc => simp (config := { implicitDefEqProofs := false, maxSteps := 2000000 }) (disch := omega) only [ps, ↓reduceIte, reduceCtorEq, Int.reduceLT, Int.reduceLE, Int.reduceEq, Nat.reduceLT, Nat.reduceLeDiff, Nat.reduceEqDiff, Int.reduceNeg, eitherK]) | (refine Rn.f ?hc ?_; case hc => simp (config := { implicitDefEqProofs := false, maxSteps := 2000000 }) (disch := omega) only [ps, ↓reduceIte, reduceCtorEq, Int.reduceLT, Int.reduceLE, Int.reduceEq, Nat.reduceLT, Nat.reduceLeDiff, Nat.reduceEqDiff, Int.reduceNeg, eitherK]))
  have sm := same2_t s4 t4 p4 u4 (by omega) (by omega)
  refine Rn.bind sm ?_
  (first | (refine Rn.t ?hc ?_; case hc => simp (config := { implicitDefEqProofs := false, maxSteps := 2000000 }) (disch := omega) only [ps, ↓reduceIte, reduceCtorEq, Int.reduceLT, Int.reduceLE, Int.reduceEq, Nat.reduceLT, Nat.reduceLeDiff, Nat.reduceEqDiff, Int.reduceNeg, eitherK]) | (refine Rn.f ?hc ?_; case hc => simp (config := { implicitDefEqProofs := false, maxSteps := 2000000 }) (disch := omega) only [ps, ↓reduceIte, reduceCtorEq, Int.reduceLT, Int.reduceLE, Int.reduceEq, Nat.reduceLT, Nat.reduceLeDiff, Nat.reduceEqDiff, Int.reduceNeg, eitherK]))
  refine Rn.bind sm ?_
  (first | (refine Rn.t ?hc ?_; case hc => simp (config := { implicitDefEqProofs := false, maxSteps := 2000000 }) (disch := omega) only [ps, ↓reduceIte, reduceCtorEq, Int.reduceLT, Int.reduceLE, Int.reduceEq, Nat.reduceLT, Nat.reduceLeDiff, Nat.reduceEqDiff, Int.reduceNeg, eitherK]) | (refine Rn.f ?hc ?_; case hc => simp (config := { implicitDefEqProofs := false, maxSteps := 2000000 }) (disch := omega) only [ps, ↓reduceIte, reduceCtorEq, Int.reduceLT, Int.reduceLE, Int.reduceEq, Nat.reduceLT, Nat.reduceLeDiff, Nat.reduceEqDiff, Int.reduceNeg, eitherK]))
  have ck := ratCheck_ev la lb da db (n0 := s4) (d0 := t4)
  rw [fr_fault hq (by omega) (by omega)] at ck
  refine Rn.bind ck ?_
  exact Rn.pure _
end Go.Proofs.Ytjgpegpjmkgkkaa.Am

/- The law RatLowest returns true for every input, and its arguments read as they did. -/
namespace Go.Proofs.Ytjgpegpjmkgkkaa.ratLowest
open Go.ChangeShapes Go.WideShapes Go.ChangeAt Go.RowKit
open Go.Proofs.Ytjgpegpjmkgkkaa.Am
set_option linter.unusedVariables false
theorem own : ownKnob Try.prog.godebug = none := by kernel_rfl
theorem laidOut : laidOutB Try.prog = true := by kernel_rfl
set_option maxRecDepth 100000 in
theorem lifted (os : Os) (started : os.Started) (H : Type) (enc : TypeId × Value → H) :
    ReturnsInHanded {} Try.checked os 3 .any (Rows.ratLowestSpec.pre6 enc Try.prog Try.f3 Rows.ratLowestRow.domain false) (Rows.ratLowestSpec.post enc Try.prog Try.f3 false true false false) := by
  refine returnsInHanded_of_change_sized (C := Try.checked) own started (by kernel_rfl) Try.func3
    (ChangeSpec.witness6 (enc := enc) (C := Try.checked) false ⟨#[], #[.agg #[.bool false, .slice none 0 0, .bool false, .slice none 0 0], .agg #[.bool false, .slice none 0 0]], []⟩ 8 (by kernel_rfl) (by kernel_rfl) (by kernel_rfl) (by kernel_rfl)) ?_
  intro W base args ds gs before hval0 hW hcnd hsz0 _
  have hval : ∀ (j : Nat) t v, Try.f3.params[j]? = some t → args[j]? = some v → Value.okWide Try.prog W .any base t v := hval0
  have hW' := hW
  obtain ⟨p, q, hA0, hV, rfl, hfz, hnd⟩ := hW
  have hA : DataW.TrodAll enc Try.prog W 0 (fun _ => true) true Try.f3.params.toList args.toList ds p := hA0
  rw [Try.params3] at hA hval
  obtain ⟨v0, vs0, d0, ds0, p0, q0, hargs, rfl, rfl, h0, r0⟩ := trodAll_cons hA
  obtain ⟨v1, vs1, d1, ds1, p1, q1, rfl, rfl, rfl, h1, r1⟩ := trodAll_cons r0
  obtain ⟨rfl, rfl, rfl⟩ := trodAll_nil r1
  obtain rfl : args = #[v0, v1] := by cases args; simp_all
  obtain ⟨rfl, rfl⟩ := trodVars_none hV
  have lt0 : ∀ x ∈ p0, x.block < W.heap.size := by obtain ⟨m, hm⟩ := h0; exact DataW.trod_lt m _ _ _ hm
  obtain ⟨y0, rv0, nm0, wf0⟩ := open_cd (d := 9) (c := (.pr (.pr .bool (.sl (.int .u32))) (.pr .bool (.sl (.int .u32))))) true (by kernel_rfl) (by kernel_rfl) (by kernel_rfl) (hval 0 26 v0 rfl rfl) h0
  have lt1 : ∀ x ∈ p1, x.block < W.heap.size := by obtain ⟨m, hm⟩ := h1; exact DataW.trod_lt m _ _ _ hm
  obtain ⟨y1, rv1, nm1, wf1⟩ := open_cd (d := 9) (c := (.pr .bool (.sl (.int .u32)))) true (by kernel_rfl) (by kernel_rfl) (by kernel_rfl) (hval 1 24 v1 rfl rfl) h1
  clear hA0 hval0 hsz0
  obtain ⟨k, hk⟩ := pure_RatLowest y0 y1 wf0 wf1
  refine (law_inst cfg_ok (okshuntlaw02_RatLowest k) (x := (y0.1.1, y0.1.2, y0.2.1, y0.2.2, y1.1, y1.2)) (y := true) hk rfl (args := [argV true (.pr (.pr .bool (.sl (.int .u32))) (.pr .bool (.sl (.int .u32)))) y0, argV true (.pr .bool (.sl (.int .u32))) y1]) rfl (rvs_cons rv0 (rvs_cons rv1 rvs_nil)) (names_cons nm0 (names_cons nm1 rfl))).mono fun e W' ⟨he, bel⟩ => ?_
  subst he
  exact ⟨_, rfl, _, _, _, [], _, [], hW', trodAll_mk1 (shut_bool Try.underlying4 _), (trodAll_cons_mk (Below.trod laidOut (by kernel_rfl) (of_decide_eq_true (by kernel_rfl)) h0 bel lt0) (trodAll_cons_mk (Below.trod laidOut (by kernel_rfl) (of_decide_eq_true (by kernel_rfl)) h1 bel lt1) trodAll_mk0)), rfl, bel.frame _, fun h => by cases h⟩
theorem over : Rows.ratLowestRow.holds Try.pinned (OpenSpec.ofChange Rows.ratLowestSpec) :=
  OpenClaim.holds_of_wide 3 Try.f3 rfl rfl rfl rfl rfl rfl rfl ⟨rfl, rfl, rfl, rfl, rfl⟩ rfl rfl rfl rfl rfl (by kernel_rfl) Try.func3 (by kernel_rfl)
    (of_decide_eq_true (by kernel_rfl)) (by unfold Func.isWrapper; first | (rw [if_pos (by decide +kernel)]; kernel_rfl) | (rw [if_neg (by decide +kernel)]; exact ⟨rfl, rfl⟩))
    (fun os started H enc _ => lifted os started H enc)
theorem proved : Rows.RatLowestSaid := over
#print axioms proved
end Go.Proofs.Ytjgpegpjmkgkkaa.ratLowest
namespace Go.Proofs.Ytjgpegpjmkgkkaa
/-- The row, under a short name, for the claim. -/
theorem ratLowest_holds : Rows.RatLowestSaid := ratLowest.proved
end Go.Proofs.Ytjgpegpjmkgkkaa
