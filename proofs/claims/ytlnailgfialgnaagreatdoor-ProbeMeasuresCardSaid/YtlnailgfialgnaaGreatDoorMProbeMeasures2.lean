/- The law ProbeMeasures returns true for every input, and its arguments read as they did. -/
import Derived.Test.YtlnailgfialgnaaGreatDoorMProbeMeasures1
import Derived.Test.YtlnailgfialgnaaGreatDoorRows
import Derived.Test.YtlnailgfialgnaaGreatDoorCards
import Derived.Test.YtlnailgfialgnaaGreatDoorTie
import Derived.WalkKit
import Derived.ProofKit
import Derived.OpenShut
import Derived.ShutString
import Derived.ChangeOld
import Derived.Below
import Derived.SizedLaws
import Derived.Carry
import Derived.LaidMore
import Derived.Lay
import Derived.SevenTiedAt
import Derived.Stop.Joined
import Derived.Handed
import Derived.LaidLaws

set_option linter.unusedVariables false
set_option linter.unusedSimpArgs false
set_option maxRecDepth 10000
namespace Go.Proofs.YtlnailgfialgnaaGreatDoor.Am
open Go

set_option maxHeartbeats 1000000 in
theorem qgf (a0 b0 : Bool) (a1 b1 : List Int) {x y : Int} (nx : Nm U a0 a1 x) (ny : Nm U b0 b1 y) (hla : a1.length ≤ 800000) (hlb : b1.length ≤ 800000) (hb0 : b1 ≠ []) :
    ∃ s q t r, Rn (fun k => qau k a0 a1 b0 b1) (s, q, t, r) ∧ Nm U s q (x.tdiv y) ∧ Nm U t r (x.tmod y) ∧ q.length ≤ a1.length ∧ r.length ≤ b1.length := by
  have hb : 0 < V U b1 := by
    have p := qv (B := U) (by decide) ny.c.1
    have := mt (ny.c.nil_iff (B := U) (by decide)).2 hb0
    omega
  have pa := qv (B := U) (by decide) nx.c.1
  obtain ⟨qs, r, z, hz, ⟨lq, dq, cr, hr, hv⟩, K, hl⟩ := qyS a0 b0 a1 b1 nx.c.1 ny.c hb hla hlb a1.length (List.replicate a1.length 0) [] _ (Nat.le_refl _) (by simp) (Dg.rep _ (by decide)) Cn.nil (by simpa [V] using hb) (by
    rw [List.drop_of_length_le (by simp), List.drop_of_length_le (by simp)]; simp [V]) (.inl ⟨[], [], [], rfl, by simp, rfl⟩)
  have hr0 := qv (B := U) (by decide) cr.1
  have hu := qw1 hv hr0 hr
  have cq : Cn U (tl qs) := Cn.of dq
  have e1 := qyP a0 b0 (Y := V U b1) pa
  have e2 := qyQ a0 b0 (Y := V U b1) pa
  rw [nx.z, ny.z, ← hu.1] at e1
  rw [nx.z, ny.z, ← hu.2] at e2
  have n1 := qoN (a0 := !(a0 == b0)) cq (qgh qs)
  have n2 := qoN (a0 := a0) cr rfl
  have ltq := qb1 qs
  refine ⟨_, _, _, _, ?_, n1.cast e1.symm, n2.cast e2.symm, by omega, ?_⟩
  · refine Rn.up (f := fun k => qau k a0 a1 b0 b1) (Rn.eq (K + a1.length + 4) fun k hk => ?_)
    show qes k a0 a1 b0 b1 = _
    unfold qes
    have hdec : ∀ l : List Int, decide ((0 : Int) < (l.length : Int)) = decide (0 < l.length) := fun l => by congr 1; simp
    have h1 : qK k k (Sum.inl (a1.length, 0, (a1.length : Int) - 1, a0, a1, b0, b1, false, 0, false, 0, List.replicate a1.length 0, [], [], [])) = some z := hl k k (by omega) (by omega)
    have h2 := ql3 qs (by omega) k (by omega)
    rw [lq] at h2
    have h3 := qfQ qs
    rcases hz with ⟨mem, m1, m2, rfl, g1, g2⟩ | ⟨m1, m2, rfl⟩
    · simp (config := { implicitDefEqProofs := false, maxSteps := 2000000 }) (disch := omega) only [ps, ↓reduceIte, reduceCtorEq, Int.reduceLT, Int.reduceLE, Int.reduceEq, Nat.reduceLT, Nat.reduceLeDiff, Nat.reduceEqDiff, Int.reduceNeg, qc, h1]
      simp (config := { implicitDefEqProofs := false, maxSteps := 2000000 }) (disch := omega) only [ps, ↓reduceIte, reduceCtorEq, Int.reduceLT, Int.reduceLE, Int.reduceEq, Nat.reduceLT, Nat.reduceLeDiff, Nat.reduceEqDiff, Int.reduceNeg, qc, h2, g1]
      cases a0 <;> cases b0 <;> simp (config := { implicitDefEqProofs := false, maxSteps := 2000000 }) (disch := omega) only [ps, ↓reduceIte, reduceCtorEq, Int.reduceLT, Int.reduceLE, Int.reduceEq, Nat.reduceLT, Nat.reduceLeDiff, Nat.reduceEqDiff, Int.reduceNeg, qc, h3, g2, hdec, if_true, if_false]
    · simp (config := { implicitDefEqProofs := false, maxSteps := 2000000 }) (disch := omega) only [ps, ↓reduceIte, reduceCtorEq, Int.reduceLT, Int.reduceLE, Int.reduceEq, Nat.reduceLT, Nat.reduceLeDiff, Nat.reduceEqDiff, Int.reduceNeg, qc, h1]
      simp (config := { implicitDefEqProofs := false, maxSteps := 2000000 }) (disch := omega) only [ps, ↓reduceIte, reduceCtorEq, Int.reduceLT, Int.reduceLE, Int.reduceEq, Nat.reduceLT, Nat.reduceLeDiff, Nat.reduceEqDiff, Int.reduceNeg, qc, h2]
      cases a0 <;> cases b0 <;> simp (config := { implicitDefEqProofs := false, maxSteps := 2000000 }) (disch := omega) only [ps, ↓reduceIte, reduceCtorEq, Int.reduceLT, Int.reduceLE, Int.reduceEq, Nat.reduceLT, Nat.reduceLeDiff, Nat.reduceEqDiff, Int.reduceNeg, qc, h3, hdec, if_true, if_false]
  · refine Nat.le_of_not_lt fun hlt => ?_
    have := Cn.len_lt (B := U) (by decide) ny.c cr hlt
    omega
theorem qtU (x0 : Bool) (x1 : Nat) (m : List Int) (M : Nat) (hM : M ≤ 800000) : ∀ (N : Nat) (a b : List Int), V U b ≤ N → Cn U a → Cn U b → a.length ≤ M → b.length ≤ M →
    ∃ l b1, (∃ K, ∀ k n, K ≤ k → N < n → qaN k n false a false b x0 x1 m = some (false, l, false, b1, x0, x1, m)) ∧ Cn U l ∧ V U l = Int.gcd (V U a) (V U b) ∧ l.length ≤ M := by
  intro N
  induction N using Nat.strongRecOn with
  | ind N ih =>
    intro a b hN ca cb ha hb
    have pa := qv (B := U) (by decide) ca.1
    by_cases h0 : b = []
    · subst h0
      refine ⟨a, [], ⟨0, fun k n _ hn => ?_⟩, ca, by simp [V]; omega, ha⟩
      obtain ⟨n, rfl⟩ : ∃ m, n = m + 1 := ⟨n - 1, by omega⟩
      show qbY k (qaN k n) _ _ _ _ _ _ _ = _
      unfold qbY
      simp (config := { implicitDefEqProofs := false, maxSteps := 2000000 }) (disch := omega) only [ps, ↓reduceIte, reduceCtorEq, Int.reduceLT, Int.reduceLE, Int.reduceEq, Nat.reduceLT, Nat.reduceLeDiff, Nat.reduceEqDiff, Int.reduceNeg, qc]
    · have pb : 0 < V U b := by
        have p := qv (B := U) (by decide) cb.1
        have := mt (cb.nil_iff (B := U) (by decide)).2 h0
        omega
      obtain ⟨s, q, t, r, ⟨K1, h1⟩, h2, h3, h4, h5⟩ := qgf false false a b (qgN ca rfl) (qgN cb rfl) (by omega) (by omega) h0
      have hr0 := Int.emod_nonneg (V U a) (show V U b ≠ 0 by omega)
      have hr1 := Int.emod_lt_of_pos (V U a) pb
      rw [qcL pa] at h3
      obtain ⟨R, hR⟩ := Int.eq_ofNat_of_zero_le hr0
      have ht : t = false := by rw [h3.neg (by decide)]; simp; omega
      subst ht
      have hvr : V U r = R := by rw [h3.abs (by decide), hR]; rfl
      obtain ⟨l, b1, ⟨K2, i1⟩, i2, i3, i4⟩ := ih R (by omega) b r (by omega) cb h3.c hb (by omega)
      refine ⟨l, b1, ⟨max K1 K2, fun k n hk hn => ?_⟩, i2, ?_, i4⟩
      · obtain ⟨n, rfl⟩ : ∃ m, n = m + 1 := ⟨n - 1, by omega⟩
        rw [← i1 k n (by omega) (by omega)]
        have c1 := h1 k (by omega)
        have lb : 0 < b.length := by
          cases b with
          | nil => exact absurd rfl h0
          | cons _ _ => simp
        show qbY k (qaN k n) _ _ _ _ _ _ _ = _
        unfold qbY
        simp (config := { implicitDefEqProofs := false, maxSteps := 2000000 }) (disch := omega) only [ps, ↓reduceIte, reduceCtorEq, Int.reduceLT, Int.reduceLE, Int.reduceEq, Nat.reduceLT, Nat.reduceLeDiff, Nat.reduceEqDiff, Int.reduceNeg, qc, c1]
      · rw [i3, hvr, ← hR]
        obtain ⟨A, hA⟩ := Int.eq_ofNat_of_zero_le pa
        obtain ⟨B, hB⟩ := Int.eq_ofNat_of_zero_le (Int.le_of_lt pb)
        rw [hA, hB]
        show (((Int.gcd (B : Int) ((A % B : Nat) : Int)) : Nat) : Int) = _
        rw [Int.gcd_natCast_natCast, Int.gcd_natCast_natCast, Nat.gcd_comm, ← Nat.gcd_rec, Nat.gcd_comm]
theorem qpO (a0 b0 : Bool) (a1 b1 : List Int) {x y : Int} (nx : Nm U a0 a1 x) (ny : Nm U b0 b1 y) (hx : a1.length ≤ 800000) (hy : b1.length ≤ 800000) :
    ∃ l, Rn (fun k => qbs k a0 a1 b0 b1) (false, l) ∧ Nm U false l (Int.gcd x y) ∧ l.length ≤ max a1.length b1.length := by
  obtain ⟨N, hN⟩ := Int.eq_ofNat_of_zero_le (qv (B := U) (by decide) ny.c.1)
  obtain ⟨l, b', ⟨K, h1⟩, h2, h3, h4⟩ := qtU false 0 [] (max a1.length b1.length) (by omega) N a1 b1 (by omega) nx.c ny.c (by omega) (by omega)
  have e : (Int.gcd (V U a1) (V U b1) : Int) = Int.gcd x y := by
    have e1 := nx.z
    have e2 := ny.z
    rw [← e1, ← e2]
    cases a0 <;> cases b0 <;> simp
  refine ⟨l, Rn.up (f := fun k => qbs k a0 a1 b0 b1) ?_, qgN h2 (by rw [h3, e]), h4⟩
  have q1 : Rn (fun k => qaW k a0 a1) (false, a1) := Rn.up (f := fun k => qaW k a0 a1) (Rn.pure _)
  have q2 : Rn (fun k => qaW k b0 b1) (false, b1) := Rn.up (f := fun k => qaW k b0 b1) (Rn.pure _)
  refine Rn.bind (f := fun k => qaW k a0 a1) q1 (Rn.bind q2 ?_)
  exact Rn.bind (x := (false, l, false, b', false, 0, [])) (Rn.eq (K + N + 1) fun k hk => h1 k k (by omega) (by omega)) (Rn.pure _)
section
variable {a0 b0 : Bool} {a1 b1 : List Int} (la : a1.length ≤ 9223372036854775807) (lb : b1.length ≤ 9223372036854775807) (da : Dg W a1) (db : Dg W b1)
include la lb da db
end
end Go.Proofs.YtlnailgfialgnaaGreatDoor.Am
set_option linter.unusedSectionVars false
namespace Go.Proofs.YtlnailgfialgnaaGreatDoor.Am
open Go

def qtl (n0 : Bool) (n1 : List Int) (d0 : Bool) (d1 : List Int) : Int :=
  if Ri n0 n1 ∧ Ri d0 d1 then (if d0 = false ∧ d1 ≠ [] ∧ Int.gcd (Zv W n0 n1) (Zv W d0 d1) = 1 then 0 else 20) else 10
theorem qFD {d1 : List Int} {d0 : Bool} (h0 : d0 = false) (hne : d1 ≠ []) (cd : Cn W d1) : 0 < Zv W d0 d1 := by
  subst h0
  have p := qv (B := W) (by decide) cd.1
  have q := mt (cd.nil_iff (B := W) (by decide)).2 hne
  simp [Zv]; omega
theorem qvX {x y : Int} (hy : 0 < y) (hg : Int.gcd x y = 1) : (Rat.divInt x y).num = x ∧ ((Rat.divInt x y).den : Int) = y := by
  refine ⟨?_, ?_⟩
  · rw [qte x (by omega), if_neg (by omega), hg]; simp
  · rw [qtf x (by omega), if_neg (by omega), hg]; simp
theorem qyT {n0 d0 : Bool} {n1 d1 : List Int} (dn : Dg W n1) (dd : Dg W d1) (h : qtl n0 n1 d0 d1 = 0) : ∃ q, Fr n0 n1 d0 d1 q ∧ n1.length ≤ 72 ∧ d1.length ≤ 72 := by
  unfold qtl at h
  split at h
  · rename_i hr
    split at h
    · rename_i hc
      obtain ⟨h1, h2, h3⟩ := hc
      have a := hr.1.nm dn
      have b := hr.2.nm dd
      obtain ⟨e1, e2⟩ := qvX (qFD h1 h2 b.c) h3
      exact ⟨Rat.divInt (Zv W n0 n1) (Zv W d0 d1), ⟨a.cast e1.symm, b.cast e2.symm⟩, hr.1.1, hr.2.1⟩
    · cases h
  · cases h
section
variable {n0 d0 : Bool} {n1 d1 : List Int} (la : n1.length ≤ 9223372036854775807) (lb : d1.length ≤ 9223372036854775807) (da : Dg W n1) (db : Dg W d1)
include la lb da db
end
abbrev RT := (Bool × List Int) × Bool × List Int
def RT.f (r : RT) : Int := qtl r.1.1 r.1.2 r.2.1 r.2.2
def RT.good (r : RT) : Prop := (r.1.2.length ≤ 9223372036854775807 ∧ Dg W r.1.2) ∧ r.2.2.length ≤ 9223372036854775807 ∧ Dg W r.2.2
section
variable {x0 x2 y0 y2 : Bool} {x1 x3 y1 y3 : List Int} {x y : Rat} (hx : Fr x0 x1 x2 x3 x) (hy : Fr y0 y1 y2 y3 y) (l1 : x1.length ≤ 72) (l3 : x3.length ≤ 72) (m1 : y1.length ≤ 72) (m3 : y3.length ≤ 72)
include hx hy l1 l3 m1 m3
end

structure Tx (z : Int) (s : ByteArray) : Prop where
  nz : z = 0 → s = bytesOf [48]
  ex : z ≠ 0 → ∃ l, Cn 10 l ∧ V 10 l = z.natAbs ∧ s = bytesOf ((if z < 0 then [45] else []) ++ (sg l).reverse)
theorem Tx.ext {z : Int} {s t : ByteArray} (h1 : Tx z s) (h2 : Tx z t) : s = t := by
  by_cases h : z = 0
  · rw [h1.nz h, h2.nz h]
  · obtain ⟨l, a1, a2, a3⟩ := h1.ex h
    obtain ⟨m, b1, b2, b3⟩ := h2.ex h
    rw [a3, b3, Cn.ext (by decide) a1 b1 (by rw [a2, b2])]

theorem qpP (k : Nat) (x0 a0 : Bool) : ∀ (d n : Nat) (u : Int) (l : List Int), 0 ≤ u ∧ u < U ^ d → u < 18446744073709551616 → d < n → l.length ≤ 1000 - d → d ≤ 100 → Dg U l → (u = 0 → Cn U l) →
    ∃ l', qai k n u x0 0 a0 l.length [] l = some (x0, 0, a0, l'.length, [], l') ∧ Cn U l' ∧ V U l' = V U l + U ^ l.length * u ∧ l'.length ≤ l.length + d := by
  intro d
  induction d with
  | zero =>
    intro n u l hu hub hn hl hd9 hd hc
    obtain ⟨n, rfl⟩ : ∃ m, n = m + 1 := ⟨n - 1, by omega⟩
    have hu0 : u = 0 := by simp at hu; omega
    subst hu0
    refine ⟨l, ?_, hc rfl, by simp, by omega⟩
    show qbe k (qai k n) _ _ _ _ _ _ _ = _
    unfold qbe
    simp (config := { implicitDefEqProofs := false, maxSteps := 2000000 }) (disch := omega) only [ps, ↓reduceIte, reduceCtorEq, Int.reduceLT, Int.reduceLE, Int.reduceEq, Nat.reduceLT, Nat.reduceLeDiff, Nat.reduceEqDiff, Int.reduceNeg, qc]
  | succ d ih =>
    intro n u l hu hub hn hl hd9 hd hc
    obtain ⟨n, rfl⟩ : ∃ m, n = m + 1 := ⟨n - 1, by omega⟩
    by_cases hu0 : u = 0
    · subst hu0
      refine ⟨l, ?_, hc rfl, by simp, by omega⟩
      show qbe k (qai k n) _ _ _ _ _ _ _ = _
      unfold qbe
      simp (config := { implicitDefEqProofs := false, maxSteps := 2000000 }) (disch := omega) only [ps, ↓reduceIte, reduceCtorEq, Int.reduceLT, Int.reduceLE, Int.reduceEq, Nat.reduceLT, Nat.reduceLeDiff, Nat.reduceEqDiff, Int.reduceNeg, qc]
    · have hu2 : u / 65536 < U ^ d := by
        have := hu.2
        rw [Int.pow_succ] at this
        unfold U at this ⊢
        omega
      have hdm := Int.emod_add_mul_ediv u 65536
      have hlen : (l ++ [u % 65536]).length = l.length + 1 := by simp
      have hdl : Dg U (l ++ [u % 65536]) := hd.snoc (by unfold U; omega)
      obtain ⟨l', q1, q2, q3, q4⟩ := ih n (u / 65536) (l ++ [u % 65536]) ⟨by omega, hu2⟩ (by omega) (by omega) (by rw [hlen]; omega) (by omega) hdl (fun h => ⟨hdl, (Cn.last hdl).2 (.inr ⟨l, u % 65536, rfl, by omega⟩)⟩)
      refine ⟨l', ?_, q2, ?_, by rw [hlen] at q4; omega⟩
      · rw [hlen] at q1
        rw [← q1]
        show qbe k (qai k n) _ _ _ _ _ _ _ = _
        unfold qbe
        have ht : l.take l.length = l := List.take_length
        simp (config := { implicitDefEqProofs := false, maxSteps := 2000000 }) (disch := omega) only [ps, ↓reduceIte, reduceCtorEq, Int.reduceLT, Int.reduceLE, Int.reduceEq, Nat.reduceLT, Nat.reduceLeDiff, Nat.reduceEqDiff, Int.reduceNeg, qc, qcK, qcL, ht, List.take_succ_cons, List.length_cons]
      · rw [q3, qc0, hlen, Int.pow_succ]
        unfold U
        grind
theorem qtm (v : Int) (hv : -9223372036854775808 ≤ v ∧ v ≤ 9223372036854775807) : ∃ l, Rn (fun k => qbr k v) (decide (v < 0), l) ∧ Nm U (decide (v < 0)) l v ∧ l.length ≤ 4 := by
  have main : ∀ (x0 : Bool) (u : Int), 0 ≤ u ∧ u < 18446744073709551616 → ∃ l, Cn U l ∧ V U l = u ∧ l.length ≤ 4 ∧ ∀ k, 5 ≤ k → qai k k u false 0 x0 0 [] [] = some (false, 0, x0, l.length, [], l) := by
    intro x0 u hu
    have h4 : u < U ^ 4 := by unfold U; simpa using hu.2
    obtain ⟨l, q1, q2, q3, q4⟩ := qpP 5 false x0 4 5 u [] ⟨hu.1, h4⟩ hu.2 (by omega) (by simp) (by omega) Dg.nil (fun _ => Cn.nil)
    refine ⟨l, q2, by rw [q3]; simp [V], by simpa using q4, fun k hk => ?_⟩
    obtain ⟨l', r1, r2, r3, r4⟩ := qpP k false x0 4 k u [] ⟨hu.1, h4⟩ hu.2 (by omega) (by simp) (by omega) Dg.nil (fun _ => Cn.nil)
    have : l' = l := Cn.ext (by decide) r2 q2 (by rw [r3, q3])
    subst this
    exact r1
  by_cases h : v < 0
  · obtain ⟨l, h1, h2, h3, h4⟩ := main true (-v) (by omega)
    refine ⟨l, ?_, Nm.of (by decide) h1 (by omega), h3⟩
    refine Rn.up (f := fun k => qbr k v) (Rn.eq 5 fun k hk => ?_)
    show qc6 k v = _
    unfold qc6
    have e1 : IntKind.u64.wrap (0 - IntKind.u64.wrap v) = -v := by rw [qee, qee]; omega
    have hh := h4 k hk
    rw [if_pos (by simpa using h), e1]
    simp (config := { implicitDefEqProofs := false, maxSteps := 2000000 }) (disch := omega) only [ps, ↓reduceIte, reduceCtorEq, Int.reduceLT, Int.reduceLE, Int.reduceEq, Nat.reduceLT, Nat.reduceLeDiff, Nat.reduceEqDiff, Int.reduceNeg, qc, hh, List.take_length, h, decide_true, decide_false]
  · obtain ⟨l, h1, h2, h3, h4⟩ := main false v (by omega)
    refine ⟨l, ?_, Nm.of (by decide) h1 (by omega), h3⟩
    refine Rn.up (f := fun k => qbr k v) (Rn.eq 5 fun k hk => ?_)
    show qc6 k v = _
    unfold qc6
    have hh := h4 k hk
    have e1 : IntKind.u64.wrap v = v := qbu (by omega)
    rw [if_neg (by simpa using h), e1]
    simp (config := { implicitDefEqProofs := false, maxSteps := 2000000 }) (disch := omega) only [ps, ↓reduceIte, reduceCtorEq, Int.reduceLT, Int.reduceLE, Int.reduceEq, Nat.reduceLT, Nat.reduceLeDiff, Nat.reduceEqDiff, Int.reduceNeg, qc, hh, List.take_length, h, decide_true, decide_false]

def okN (m e : Int) : Bool := decide (m = 0 ∧ e = 0 ∨ m.tmod 10 ≠ 0 ∧ -999999999 ≤ m ∧ m ≤ 999999999 ∧ -18 ≤ e ∧ e ≤ 9)
theorem qw3 {s : Bool} {l : List Int} {x : Int} (h : Nm W s l x) (n : Nat) (hx : (x.natAbs : Int) < W ^ n) : l.length ≤ n :=
  (h.c.len_le (B := W) (by decide) n).2 (by rw [h.abs (B := W) (by decide)]; exact hx)
theorem W2 : (W ^ 2 : Int) = 18446744073709551616 := by decide
section
variable {x0 x2 y0 y2 : Bool} {x1 x3 y1 y3 : List Int} {x y : Rat} (hx : Fr x0 x1 x2 x3 x) (hy : Fr y0 y1 y2 y3 y) (l1 : x1.length ≤ 100000) (l3 : x3.length ≤ 100000) (m1 : y1.length ≤ 100000) (m3 : y3.length ≤ 100000)
include hx hy l1 l3 m1 m3
end
def qcf (v : Int) : Bool := decide (v > 2000000000000000000 ∨ v < -2000000000000000000)
def qal (l : List Int) : Int := if l.any qcf = true then 4 else if l.length = 0 then 6 else 0
theorem qgO {v : Int} : qcf v = false ↔ okV v := by
  unfold qcf okV
  rw [decide_eq_false_iff_not]
  omega
theorem qpD (v : Int) : Rn (fun k => qbz k v) (qcf v) := by
  refine Rn.up (f := fun k => qbz k v) ?_
  show Rn (fun k => qfU k v) _
  unfold qfU qcf
  by_cases c : v > 2000000000000000000
  · exact Rn.f (by rw [decide_eq_false_iff_not]; exact fun h => h c) (Rn.const (congrArg some (decide_eq_true (by omega)).symm))
  · exact Rn.t (decide_eq_false c) (Rn.const (congrArg some (decide_eq_decide.2 (by omega))))
theorem qp0 (F : Nat → Nat → List Int → Int → Int → Option (Int ⊕ Unit)) (G : Nat → Int → Option Bool) (bad : Int → Bool) (s : List Int) (hs : s.length ≤ 1000000000000000000)
    (hF : ∀ k q x x1, F k (q + 1) s x x1 = if ((decide (x1 < x)) = true) then (if ((0 : Int) ≤ x1) then Option.bind s[x1.toNat]? (fun x4 => Option.bind (G k x4) (fun r4 => if r4 = true then some (Sum.inl x1) else F k q s x (IntKind.i64.wrap (x1 + 1)))) else none) else some (Sum.inr ()))
    (hG : ∀ p ∈ s, Rn (fun k => G k p) (bad p)) : ∃ o, Rl (fun k q => F k q s s.length 0) o ∧ (s.any bad = false ∧ o = .inr () ∨ s.any bad = true ∧ ∃ a : Int, 0 ≤ a ∧ o = .inl a) := by
  obtain ⟨o, h1, h2⟩ := qxs s.length 0 (fun k q i => F k q s s.length i) () (fun a => 0 ≤ a) (fun j => ∀ p, s[j]? = some p → bad p = false) (by
      refine Rl.up (f := fun k q => F k q s s.length s.length) ?_
      simp only [hF]
      exact Rl.f (by simp) (Rl.pure _)) (by
      intro i hs0 hi hok o ho
      refine Rl.up (f := fun k q => F k q s s.length (i : Int)) ?_
      simp only [hF]
      have eg := List.getElem?_eq_getElem hi
      have hg := hG _ (List.getElem_mem hi)
      rw [hok _ eg] at hg
      refine Rl.t (by rw [decide_eq_true_eq]; omega) (Rl.t (by omega) (Rl.at (by rw [Int.toNat_natCast]; exact eg) (Rl.bind hg (Rl.f (by decide) ?_))))
      rw [qU (x := (i : Int) + 1) (by omega)]
      exact ho) (by
      intro i hs0 hi hok
      refine ⟨(i : Int), by omega, Rl.up (f := fun k q => F k q s s.length (i : Int)) ?_⟩
      simp only [hF]
      have eg := List.getElem?_eq_getElem hi
      have hg := hG _ (List.getElem_mem hi)
      have hb : bad (s[i]'hi) = true := by
        cases hb : bad (s[i]'hi) with
        | true => rfl
        | false => exact absurd (fun p hp => by rw [eg] at hp; cases hp; exact hb) hok
      rw [hb] at hg
      exact Rl.t (by rw [decide_eq_true_eq]; omega) (Rl.t (by omega) (Rl.at (by rw [Int.toNat_natCast]; exact eg) (Rl.bind hg (Rl.t (by decide) (Rl.pure _)))))) s.length 0 (by omega) (by omega)
  have hall : s.any bad = false ↔ ∀ j, 0 ≤ j → j < s.length → ∀ p, s[j]? = some p → bad p = false := by
    rw [List.any_eq_false]
    constructor
    · intro h j _ hj p hp; exact Bool.eq_false_iff.2 (h p (List.mem_of_getElem? hp))
    · intro h p hp
      obtain ⟨j, hj, e⟩ := List.mem_iff_getElem.1 hp
      rw [h j (Nat.zero_le _) hj p (by rw [List.getElem?_eq_getElem hj, e])]
      decide
  refine ⟨o, h1, ?_⟩
  rcases h2 with ⟨h2, rfl⟩ | ⟨h2, a, ha, rfl⟩
  · exact .inl ⟨hall.2 h2, rfl⟩
  · refine .inr ⟨?_, a, ha, rfl⟩
    rw [← Bool.not_eq_false, hall]
    exact h2
theorem qgP (l : List Int) (hl : l.length ≤ 1000000000000000000) : Rn (fun k => qcB k l) (qal l) := by
  obtain ⟨o, b1, b2⟩ := qp0 qR qbz qcf l hl (fun _ _ _ _ => rfl) (fun p _ => qpD p)
  have key : ∀ a, Rn (fun k => qc o (fun r4 => some r4) (fun r4 => some (-1))) a → Rn (fun k => qV k l) a := by
    intro a h
    refine Rn.up (f := fun k => qV k l) ?_
    show Rn (fun k => qbC k l) _
    unfold qbC
    exact Rn.bind b1.diag h
  have hc : Rn (fun k => qQ k l) (l.any qcf) := by
    refine Rn.up (f := fun k => qQ k l) ?_
    show Rn (fun k => qbl k l) _
    unfold qbl
    rcases b2 with ⟨b2, rfl⟩ | ⟨b2, a, ha, rfl⟩
    · rw [b2]; exact Rn.bind (key _ (Rn.pure _)) (Rn.pure _)
    · rw [b2]; exact Rn.bind (key _ (Rn.pure _)) (Rn.const (congrArg some (decide_eq_true ha)))
  refine Rn.up (f := fun k => qcB k l) ?_
  show Rn (fun k => qg3 k l) _
  unfold qg3
  refine Rn.bind hc ?_
  cases h : l.any qcf
  · refine Rn.f (by decide) ?_
    by_cases c : l.length = 0
    · rw [show qal l = 6 by unfold qal; rw [h, if_neg (by decide), if_pos c]]; exact Rn.t (by simp [c]) (Rn.pure _)
    · rw [show qal l = 0 by unfold qal; rw [h, if_neg (by decide), if_neg c]]; exact Rn.f (by rw [beq_iff_eq]; omega) (Rn.pure _)
  · rw [show qal l = 4 by unfold qal; rw [h, if_pos rfl]]
    exact Rn.t rfl (Rn.pure _)
theorem qgw (l : List Int) (hl : l.length ≤ 1000000000000000000) : Rn (fun k => qS k l) (l.any qcf) := by
  obtain ⟨o, h1, h2⟩ := qwO l hl
  have hall : l.any qcf = false ↔ ∀ j, 0 ≤ j → j < l.length → okV (l.getD j 0) := by
    rw [List.any_eq_false]
    constructor
    · intro h j _ hj
      have hm : l.getD j 0 ∈ l := List.mem_of_getElem? (getD_some 0 hj)
      exact qgO.1 (Bool.eq_false_iff.2 (h _ hm))
    · intro h p hp
      obtain ⟨j, hj, e⟩ := List.mem_iff_getElem.1 hp
      have := h j (Nat.zero_le _) hj
      rw [show l.getD j 0 = p by have h1 := getD_some (0 : Int) hj; rw [List.getElem?_eq_getElem hj, e] at h1; exact (Option.some.inj h1).symm] at this
      rw [qgO.2 this]
      decide
  refine Rn.up (f := fun k => qS k l) ?_
  show Rn (fun k => qd5 k l) _
  unfold qd5
  refine Rn.bind h1.diag ?_
  rcases h2 with ⟨h2, rfl⟩ | ⟨h2, a, rfl, rfl⟩
  · rw [hall.2 h2]; exact Rn.pure _
  · rw [show l.any qcf = true by rw [← Bool.not_eq_false, hall]; exact h2]; exact Rn.pure _
theorem qyU (l : List Int) (hl : l.length ≤ 1000000000000000000) : ∀ (d i : Nat) (m : Int), i + d = l.length → Rl (fun k q => qI k q l m (i : Int)) ((l.drop i).foldl min m) := by
  intro d
  induction d with
  | zero =>
    intro i m e
    obtain rfl : i = l.length := by omega
    refine Rl.up (f := fun k q => qI k q l m (l.length : Int)) ?_
    show Rl (fun k q => qaY k (qI k q) _ _ _) _
    unfold qaY
    rw [List.drop_length]
    exact Rl.f (by simp) (Rl.pure _)
  | succ d ih =>
    intro i m e
    have hi : i < l.length := by omega
    refine Rl.up (f := fun k q => qI k q l m (i : Int)) ?_
    show Rl (fun k q => qaY k (qI k q) _ _ _) _
    unfold qaY
    rw [List.drop_eq_getElem_cons hi, List.foldl_cons, qU (x := (i : Int) + 1) (by omega)]
    exact Rl.t (by rw [decide_eq_true_eq]; omega) (Rl.t (by omega) (Rl.at (by rw [Int.toNat_natCast]; exact List.getElem?_eq_getElem hi) (ih (i + 1) _ (by omega))))
theorem qyV (l : List Int) (hl : l.length ≤ 1000000000000000000) : ∀ (d i : Nat) (m : Int), i + d = l.length → Rl (fun k q => qJ k q l m (i : Int)) ((l.drop i).foldl max m) := by
  intro d
  induction d with
  | zero =>
    intro i m e
    obtain rfl : i = l.length := by omega
    refine Rl.up (f := fun k q => qJ k q l m (l.length : Int)) ?_
    show Rl (fun k q => qaZ k (qJ k q) _ _ _) _
    unfold qaZ
    rw [List.drop_length]
    exact Rl.f (by simp) (Rl.pure _)
  | succ d ih =>
    intro i m e
    have hi : i < l.length := by omega
    refine Rl.up (f := fun k q => qJ k q l m (i : Int)) ?_
    show Rl (fun k q => qaZ k (qJ k q) _ _ _) _
    unfold qaZ
    rw [List.drop_eq_getElem_cons hi, List.foldl_cons, qU (x := (i : Int) + 1) (by omega)]
    exact Rl.t (by rw [decide_eq_true_eq]; omega) (Rl.t (by omega) (Rl.at (by rw [Int.toNat_natCast]; exact List.getElem?_eq_getElem hi) (ih (i + 1) _ (by omega))))
def qtn (l : List Int) : Int := (l.drop 1).foldl min (l.headD 0)
def qto (l : List Int) : Int := (l.drop 1).foldl max (l.headD 0)
theorem qAG (l : List Int) (hl : l.length ≤ 1000000000000000000) : Rn (fun k => qdn k l) (if qal l = 0 then (qtn l, qto l, 0) else (0, 0, qal l)) := by
  refine Rn.up (f := fun k => qdn k l) ?_
  show Rn (fun k => qg5 k l) _
  unfold qg5
  refine Rn.bind (qgP l hl) ?_
  by_cases h : qal l = 0
  rotate_left
  · rw [if_neg h]; exact Rn.t (by simp [h]) (Rn.pure _)
  rw [if_pos h]
  have hne : l.length ≠ 0 := by
    intro e
    unfold qal at h
    rw [if_pos e] at h
    split at h <;> omega
  obtain ⟨x, r, rfl⟩ : ∃ x r, l = x :: r := by cases l with | nil => simp at hne | cons x r => exact ⟨x, r, rfl⟩
  refine Rn.f (by simp [h]) (Rn.bind (x := qtn (x :: r)) ?_ (Rn.bind (x := qto (x :: r)) ?_ (Rn.pure _)))
  · refine Rn.up (f := fun k => qbp k (x :: r)) ?_
    show Rn (fun k => qc3 k (x :: r)) _
    unfold qc3
    have := qyU (x :: r) hl r.length 1 x (by simp; omega)
    exact Rn.f (by rw [decide_eq_true_eq]; simp; omega) (Rn.at rfl (Rn.bind this.diag (Rn.pure _)))
  · refine Rn.up (f := fun k => qbq k (x :: r)) ?_
    show Rn (fun k => qc4 k (x :: r)) _
    unfold qc4
    have := qyV (x :: r) hl r.length 1 x (by simp; omega)
    exact Rn.f (by rw [decide_eq_true_eq]; simp; omega) (Rn.at rfl (Rn.bind this.diag (Rn.pure _)))
theorem qAH (yneg x : Bool) (y : List Int) (hy : y.length ≤ 1000000000) (cy : Cn W y) :
    ∃ s l, Rn (fun k => qcm k yneg y x) (s, l) ∧ Nm W s l ((if x then -(V W []) else V W []) + (if yneg then -(V W y) else V W y)) ∧ l.length ≤ max ([] : List Int).length y.length + 1 := by
  obtain ⟨s, l, h1, h2⟩ := qug x yneg [] y (Nat.zero_le _) hy Cn.nil cy (fun k neg w => qG k neg w x) (fun neg w hw => qlo neg x w hw) (fun r => (r.1, r.2))
  exact ⟨s, l, Rn.up (f := fun k => qcm k yneg y x) h1, h2⟩
theorem qAI (z y0 : Bool) (y1 : List Int) {y : Int} (ny : Nm W y0 y1 y) (hy : y1.length ≤ 1000000000) :
    ∃ s l, Rn (fun k => qcn k z y0 y1) (s, l, y0, y1) ∧ Nm W s l y := by
  obtain ⟨s, l, h1, h2, h3⟩ := qAH y0 z y1 hy ny.c
  rw [ny.z] at h2
  refine ⟨s, l, Rn.up (f := fun k => qcn k z y0 y1) (Rn.bind h1 (Rn.pure _)), h2.cast ?_⟩
  simp [V]
theorem W3 : (W ^ 3 : Int) = 79228162514264337593543950336 := by decide
theorem qul : ∀ l : List Int, (∀ v ∈ l, okV v) → -(2000000000000000000 * (l.length : Int)) ≤ l.sum ∧ l.sum ≤ 2000000000000000000 * (l.length : Int)
  | [], _ => by simp
  | x :: l, h => by
    have h1 := h x (List.mem_cons_self ..)
    have h2 := qul l (fun v hv => h v (List.mem_cons_of_mem _ hv))
    unfold okV at h1
    rw [List.sum_cons, List.length_cons]
    omega
theorem qw4 (row l : List Int) (hl : l.length ≤ 2000) (ok : ∀ v ∈ l, okV v) (b1 b2 : Bool) (n1 n2 : Nat) : ∀ (d i : Nat) (s : Bool) (z a1 a2 : List Int) (p : Int), i + d = l.length → Nm W s z p → z.length ≤ 2 + i → p = (l.take i).sum →
    ∃ s' z' c1 c2, Rl (fun k q => qaf k q (.inr (row, l, (l.length : Int), (i : Int), b1, n1, b2, n2, s, z, a1, a2))) (.inr (row, b1, n1, b2, n2, s', z', c1, c2)) ∧ Nm W s' z' l.sum := by
  intro d
  induction d with
  | zero =>
    intro i s z a1 a2 p e nz hz hp
    obtain rfl : i = l.length := by omega
    refine ⟨s, z, a1, a2, Rl.up (f := fun k q => qaf k q (.inr (row, l, (l.length : Int), (l.length : Int), b1, n1, b2, n2, s, z, a1, a2))) ?_, nz.cast (by rw [hp, List.take_length])⟩
    show Rl (fun k q => qct k (qaf k q) _) _
    unfold qct
    show Rl (fun k q => if (decide ((l.length : Int) < (l.length : Int))) = true then _ else _) _
    exact Rl.f (by simp) (Rl.pure _)
  | succ d ih =>
    intro i s z a1 a2 p e nz hz hp
    have hi : i < l.length := by omega
    have eg : l[i]? = some l[i] := List.getElem?_eq_getElem hi
    have hv := ok _ (List.getElem_mem hi)
    have et : l.take (i + 1) = l.take i ++ [l[i]] := by rw [List.take_add_one, eg]; rfl
    generalize l[i] = v at eg hv et
    unfold okV at hv
    obtain ⟨w, c1, c2, c3⟩ := qjA v (by omega)
    obtain ⟨s1, z1, d1, d2, d3⟩ := qAx s (decide (v < 0)) z w nz c2 (by omega) (by omega)
    obtain ⟨s', z', e1, e2, f1, f2⟩ := ih (i + 1) s1 z1 a1 a2 (p + v) (by omega) d2 (by omega) (by rw [et, List.sum_append, ← hp]; simp)
    have hrec : ∀ y1 y2 : List Int, ∃ c1 c2, Rl (fun k q => qaf k q (.inr (row, l, (l.length : Int), ((i + 1 : Nat) : Int), b1, n1, b2, n2, s1, z1, y1, y2))) (.inr (row, b1, n1, b2, n2, s', z', c1, c2)) := by
      intro y1 y2
      obtain ⟨s2, z2, g1, g2, k1, k2⟩ := ih (i + 1) s1 z1 y1 y2 (p + v) (by omega) d2 (by omega) (by rw [et, List.sum_append, ← hp]; simp)
      obtain ⟨rfl, rfl⟩ := Nm.ext (B := W) (by decide) k2 f2
      exact ⟨g1, g2, k1⟩
    obtain ⟨g1, g2, k1⟩ := hrec _ _
    refine ⟨s', z', g1, g2, Rl.up (f := fun k q => qaf k q (.inr (row, l, (l.length : Int), (i : Int), b1, n1, b2, n2, s, z, a1, a2))) ?_, f2⟩
    show Rl (fun k q => qct k (qaf k q) _) _
    unfold qct
    show Rl (fun k q => if (decide ((i : Int) < (l.length : Int))) = true then if (0 : Int) ≤ (i : Int) then Option.bind l[(i : Int).toNat]? _ else none else _) _
    refine Rl.t (by rw [decide_eq_true_eq]; omega) (Rl.t (by omega) (Rl.at (by rw [Int.toNat_natCast]; exact eg) (Rl.bind c1 (Rl.bind d1 ?_))))
    show Rl (fun k q => qaf k q (.inr (row, l, (l.length : Int), IntKind.i64.wrap ((i : Int) + 1), b1, n1, b2, n2, s1, z1, _, _))) _
    rw [qU (x := (i : Int) + 1) (by omega)]
    exact k1
theorem qAJ (row : List Int) (hl : row.length ≤ 2000) (hk : qal row = 0) : ∃ s p t r, Rn (fun k => qcC k row) (s, p, t, r, 0) ∧ Fr s p t r (Rat.divInt row.sum row.length) ∧ p.length ≤ 3 ∧ r.length ≤ 2 ∧ 0 < row.length ∧ ∀ v ∈ row, okV v := by
  have hno : row.any qcf = false ∧ row.length ≠ 0 := by
    unfold qal at hk
    cases h : row.any qcf
    · rw [h, if_neg (by decide)] at hk
      exact ⟨rfl, fun e => by rw [if_pos e] at hk; omega⟩
    · rw [h, if_pos rfl] at hk; omega
  have ok : ∀ v ∈ row, okV v := fun v hv => qgO.1 (Bool.eq_false_iff.2 (List.any_eq_false.1 hno.1 v hv))
  have hsum := qul row ok
  have hi : 0 < row.length := by omega
  have eg : row[0]? = some row[0] := List.getElem?_eq_getElem hi
  have hv := ok _ (List.getElem_mem hi)
  have et : row.take 1 = [row[0]] := by rw [show (1 : Nat) = 0 + 1 from rfl, List.take_add_one, eg]; rfl
  generalize row[0] = v at eg hv et
  unfold okV at hv
  obtain ⟨w, c1, c2, c3⟩ := qjA v (by omega)
  obtain ⟨s1, z1, d1, d2⟩ := qAI false (decide (v < 0)) w c2 (by omega)
  have hz1 : z1.length ≤ 2 := qw3 d2 2 (by rw [W2]; omega)
  have hrec : ∀ y1 y2 : List Int, ∃ s' z' g1 g2, Rl (fun k q => qaf k q (.inr (row, row, (row.length : Int), ((1 : Nat) : Int), false, 0, false, 0, s1, z1, y1, y2))) (.inr (row, false, 0, false, 0, s', z', g1, g2)) ∧ Nm W s' z' row.sum := fun y1 y2 =>
    qw4 row row hl ok false false 0 0 (row.length - 1) 1 s1 z1 y1 y2 v (by omega) d2 (by omega) (by rw [et]; simp)
  obtain ⟨s', z', g1, g2, f1, f2⟩ := hrec _ _
  have hz' : z'.length ≤ 3 := qw3 f2 3 (by rw [W3]; omega)
  have h0 : Rl (fun k q => qaf k q (.inl (row, row, (row.length : Int), 0, false, 0, false, 0, false, [], []))) (.inr (row, false, 0, false, 0, s', z', g1, g2)) := by
    refine Rl.up (f := fun k q => qaf k q (.inl (row, row, (row.length : Int), 0, false, 0, false, 0, false, [], []))) ?_
    show Rl (fun k q => qct k (qaf k q) _) _
    unfold qct
    show Rl (fun k q => if (decide ((0 : Int) < (row.length : Int))) = true then if (0 : Int) ≤ (0 : Int) then Option.bind row[(0 : Int).toNat]? _ else none else _) _
    refine Rl.t (by rw [decide_eq_true_eq]; omega) (Rl.t (by omega) (Rl.at (by exact eg) (Rl.bind c1 (Rl.bind d1 ?_))))
    exact f1
  obtain ⟨m, e1, e2, e3⟩ := qjA row.length (by omega)
  obtain ⟨s, p, t, r, q1, q2, q3, q4⟩ := qAC s' (decide ((row.length : Int) < 0)) z' m f2 e2 (by omega) (by omega) (by omega)
  refine ⟨s, p, t, r, Rn.up (f := fun k => qcC k row) ?_, q2, by omega, by omega, hi, ok⟩
  show Rn (fun k => qe0 k row) _
  unfold qe0
  refine Rn.bind (qgP row (by omega)) (Rn.f (by simp [hk]) (Rn.bind h0.diag ?_))
  show Rn (fun k => Option.bind (qaq k (row.length : Int)) _) _
  exact Rn.bind e1 (Rn.bind q1 (Rn.bind (qyL q2 (show p.length ≤ 1000000 by omega) (show r.length ≤ 1000000 by omega)) (Rn.pure _)))

def RT.d (r : RT) : Nat := (Zv W r.2.1 r.2.2).toNat
theorem RT.pos {r : RT} (hg : r.good) (h : r.f = 0) : 0 < r.d ∧ r.2.2.length ≤ 72 ∧ Nm W r.2.1 r.2.2 (r.d : Int) := by
  obtain ⟨q, h1, h2, h3⟩ := qyT hg.1.2 hg.2.2 h
  have e : Zv W r.2.1 r.2.2 = q.den := h1.2.z
  have p := Rat.den_pos' q
  have ed : r.d = q.den := by unfold RT.d; rw [e]; rfl
  rw [ed]
  exact ⟨by omega, h3, h1.2⟩

def FrU (n0 : Bool) (n1 : List Int) (d0 : Bool) (d1 : List Int) (q : Rat) : Prop := Nm U n0 n1 q.num ∧ Nm U d0 d1 (q.den : Int)
theorem FrU.cast {n0 : Bool} {n1 : List Int} {d0 : Bool} {d1 : List Int} {q q' : Rat} (h : FrU n0 n1 d0 d1 q) (e : q = q') : FrU n0 n1 d0 d1 q' := e ▸ h
theorem qw5 {a0 : Bool} {a1 : List Int} {x : Int} (h : Nm U a0 a1 x) (h0 : x ≠ 0) : a1 ≠ [] := by
  intro e
  rw [e] at h
  have := h.z
  cases a0 <;> simp [V] at this <;> omega
theorem qvY (n0 d0 : Bool) (n1 d1 : List Int) {x y : Int} (nx : Nm U n0 n1 x) (ny : Nm U d0 d1 y) (hx : n1.length ≤ 100000) (hy : d1.length ≤ 100000) (hy0 : y ≠ 0) :
    ∃ s p t r, Rn (fun k => qa0 k n0 n1 d0 d1) (s, p, t, r) ∧ FrU s p t r (Rat.divInt x y) ∧ p.length ≤ n1.length ∧ r.length ≤ d1.length := by
  have ex := qte x hy0
  have ey := qtf x hy0
  have hgp : (Int.gcd x y : Int) ≠ 0 := by
    have := Int.gcd_pos_of_ne_zero_right x hy0
    omega
  have hs := qAF d0 d1 ny
  obtain ⟨c, hc, hcc⟩ := qfN y 0
  rw [hc] at hs
  by_cases hneg : y < 0
  · rw [if_pos hneg, Int.tdiv_neg, ← Int.neg_tdiv] at ex ey
    obtain ⟨s1, l1, a1, a2, a3⟩ := qti n0 n1 nx
    obtain ⟨s2, l2, b1, b2, b3⟩ := qti d0 d1 ny
    obtain ⟨g, g1, g2, g3⟩ := qpO s1 s2 l1 l2 a2 b2 (by omega) (by omega)
    have eg : (Int.gcd (-x) (-y) : Int) = Int.gcd x y := by rw [Int.gcd_neg, Int.neg_gcd]
    rw [eg] at g2
    have hgn := qw5 g2 hgp
    obtain ⟨s3, q3, t3, r3, c1, c2, c3, c4, c5⟩ := qgf s1 false l1 g a2 g2 (by omega) (by omega) hgn
    obtain ⟨s4, q4, t4, r4, d1', d2, d3, d4, d5⟩ := qgf s2 false l2 g b2 g2 (by omega) (by omega) hgn
    rw [← ex] at c2
    rw [← ey] at d2
    refine ⟨s3, q3, s4, q4, Rn.up (f := fun k => qa0 k n0 n1 d0 d1) ?_, ⟨c2, d2⟩, by omega, by omega⟩
    show Rn (fun k => qcH k n0 n1 d0 d1) _
    unfold qcH
    refine Rn.bind hs ?_
    (first | (refine Rn.t ?hc ?_; case hc => simp (config := { implicitDefEqProofs := false, maxSteps := 2000000 }) (disch := omega) only [ps, ↓reduceIte, reduceCtorEq, Int.reduceLT, Int.reduceLE, Int.reduceEq, Nat.reduceLT, Nat.reduceLeDiff, Nat.reduceEqDiff, Int.reduceNeg, qc]) | (refine Rn.f ?hc ?_; case hc => simp (config := { implicitDefEqProofs := false, maxSteps := 2000000 }) (disch := omega) only [ps, ↓reduceIte, reduceCtorEq, Int.reduceLT, Int.reduceLE, Int.reduceEq, Nat.reduceLT, Nat.reduceLeDiff, Nat.reduceEqDiff, Int.reduceNeg, qc]))
    exact Rn.bind a1 (Rn.bind b1 (Rn.bind g1 (Rn.bind c1 (Rn.bind d1' (Rn.pure _)))))
  · rw [if_neg hneg] at ex ey
    obtain ⟨g, g1, g2, g3⟩ := qpO n0 d0 n1 d1 nx ny (by omega) (by omega)
    have hgn := qw5 g2 hgp
    obtain ⟨s3, q3, t3, r3, c1, c2, c3, c4, c5⟩ := qgf n0 false n1 g nx g2 (by omega) (by omega) hgn
    obtain ⟨s4, q4, t4, r4, d1', d2, d3, d4, d5⟩ := qgf d0 false d1 g ny g2 (by omega) (by omega) hgn
    rw [← ex] at c2
    rw [← ey] at d2
    refine ⟨s3, q3, s4, q4, Rn.up (f := fun k => qa0 k n0 n1 d0 d1) ?_, ⟨c2, d2⟩, by omega, by omega⟩
    show Rn (fun k => qcH k n0 n1 d0 d1) _
    unfold qcH
    refine Rn.bind hs ?_
    (first | (refine Rn.t ?hc ?_; case hc => simp (config := { implicitDefEqProofs := false, maxSteps := 2000000 }) (disch := omega) only [ps, ↓reduceIte, reduceCtorEq, Int.reduceLT, Int.reduceLE, Int.reduceEq, Nat.reduceLT, Nat.reduceLeDiff, Nat.reduceEqDiff, Int.reduceNeg, qc]) | (refine Rn.f ?hc ?_; case hc => simp (config := { implicitDefEqProofs := false, maxSteps := 2000000 }) (disch := omega) only [ps, ↓reduceIte, reduceCtorEq, Int.reduceLT, Int.reduceLE, Int.reduceEq, Nat.reduceLT, Nat.reduceLeDiff, Nat.reduceEqDiff, Int.reduceNeg, qc]))
    exact Rn.bind g1 (Rn.bind c1 (Rn.bind d1' (Rn.pure _)))
section
variable {n0 d0 : Bool} {n1 d1 : List Int} (la : n1.length ≤ 9223372036854775807) (lb : d1.length ≤ 9223372036854775807) (da : Dg W n1) (db : Dg W d1)
include la lb da db
end

structure OkW (w0 : Int) (w1 : List (Int × Int)) (w2 : List Int) : Prop where
  vals : ∀ j, 0 ≤ j → j < w1.length → okN (w1.getD j (0, 0)).1 (w1.getD j (0, 0)).2 = true
  steps : ∀ j, 0 ≤ j → j < w2.length → 0 ≤ w2.getD j 0 ∧ w2.getD j 0 ≤ 1000000000
  kind : w0 = 1 ∧ w1.length = 1 ∧ w2.length = 0 ∨ w0 = 2 ∧ w1.length = 2 ∧ w2.length = 5 ∧ 1 ≤ w2.getD 4 0 ∧ w2.getD 1 0 + w2.getD 2 0 + w2.getD 3 0 ≤ w2.getD 4 0 ∨
    w0 = 3 ∧ w1.length = w2.length ∧ 1 ≤ w1.length ∧ w1.length ≤ 16 ∧ (∀ j, 1 ≤ j → j < w2.length → w2.getD (j - 1) 0 < w2.getD j 0) ∨ w0 = 4 ∧ 1 ≤ w1.length ∧ w1.length ≤ 16 ∧ w2.length = 0
section
variable (w0 : Int) (w1 : List (Int × Int)) (w2 : List Int) (h1 : w1.length ≤ 1000000000000000000) (h2 : w2.length ≤ 1000000000000000000)
include h1 h2
end
structure UF (n : Nat) (ss : List Int) (rt : Nat → Nat) (dp : Nat → Nat) : Prop where
  len : ss.length = n
  par : ∀ i, i < n → ∃ p : Nat, p < n ∧ ss[i]? = some (p : Int) ∧ rt p = rt i ∧ (p ≠ i → dp p < dp i) ∧ (p = i → rt i = i)
  lt : ∀ i, i < n → rt i < n
  self : ∀ i, i < n → ss[rt i]? = some ((rt i : Nat) : Int)
  idem : ∀ i, i < n → rt (rt i) = rt i
def jn (rt : Nat → Nat) (a b : Nat) : Nat → Nat := fun x => if rt x = rt a then rt b else rt x
theorem UF.new {n : Nat} {ss : List Int} (hl : ss.length = n) (h : ∀ j, j < n → ss[j]? = some (j : Int)) : UF n ss id (fun _ => 0) :=
  ⟨hl, fun i hi => ⟨i, hi, h i hi, rfl, fun e => absurd rfl e, fun _ => rfl⟩, fun i hi => hi, fun i hi => h i hi, fun i hi => rfl⟩
abbrev Dv := Int × ByteArray × List Int × Int × (Int × Int) × (Int × List (Int × Int) × List Int) × ByteArray × Int × List (Int × Int) × List (Int × Int)
def qFE : ByteArray := ByteArray.mk (List.toArray [101, 103, 116])
structure OkD (n : Nat) (d : Dv) : Prop where
  rng : ∀ i, i < d.2.2.1.length → 0 ≤ d.2.2.1.getD i 0 ∧ d.2.2.1.getD i 0 < n
  two : 2 ≤ d.2.2.1.length
  four : 0 ≤ qfD qFE d.1 → 4 ≤ d.2.2.1.length
def nd (d : Dv) (i : Nat) : Nat := (d.2.2.1.getD i 0).toNat
theorem OkD.at {n : Nat} {d : Dv} (h : OkD n d) {i : Nat} (hi : i < d.2.2.1.length) : d.2.2.1[i]? = some ((nd d i : Nat) : Int) ∧ nd d i < n := by
  obtain ⟨h1, h2⟩ := h.rng i hi
  have e := getD_some (l := d.2.2.1) (0 : Int) hi
  unfold nd
  exact ⟨by rw [e]; congr 1; omega, by omega⟩
def tie (first : ByteArray) (rt : Nat → Nat) (d : Dv) : Nat → Nat :=
  if 0 ≤ qfD qFE d.1 then jn (if 0 ≤ qfD first d.1 then jn rt (nd d 0) (nd d 1) else rt) (nd d 2) (nd d 3) else if 0 ≤ qfD first d.1 then jn rt (nd d 0) (nd d 1) else rt
def LK (mode : Int) (d : Dv) : Prop := d.1 = 118 ∨ d.1 = 108 ∧ mode = 1
instance (mode : Int) (d : Dv) : Decidable (LK mode d) := by unfold LK; infer_instance
def qLo (l : List (Int × Int)) : Prop := ∀ j, 0 ≤ j → j < l.length → okN (l.getD j (0, 0)).1 (l.getD j (0, 0)).2 = true
section
variable (m0 : ByteArray) (m1 : Int) (m2 m3 : List (Int × Int)) (h0 : m0.size ≤ 1000000000000000000) (h2 : m2.length ≤ 1000000000000000000) (h3 : m3.length ≤ 1000000000000000000)
include h0 h2 h3
end
structure GoodD (d : Dv) : Prop where
  kd : 0 ≤ d.1 ∧ d.1 < 256
  nm : d.2.1.size ≤ 1000000000000
  nd : d.2.2.1.length ≤ 1000000000000
  wv : d.2.2.2.2.2.1.2.1.length ≤ 1000000000000
  ws : d.2.2.2.2.2.1.2.2.length ≤ 1000000000000
  mn : d.2.2.2.2.2.2.1.size ≤ 1000000000000
  mg : d.2.2.2.2.2.2.2.2.1.length ≤ 1000000000000
  mv : d.2.2.2.2.2.2.2.2.2.length ≤ 1000000000000
structure Gd (f0 : List ByteArray) (f1 : List Dv) : Prop where
  l0 : f0.length ≤ 1000000000
  l1 : f1.length ≤ 1000000000
  nm : ∀ s ∈ f0, s.size ≤ 1000000000000
  dv : ∀ d ∈ f1, GoodD d
def b0 : List UInt8 := [48]
section
variable (f0 : List ByteArray) (f1 : List Dv) (f2 f3 f4 : Int) (g : Gd f0 f1)
include g
end
def Ref (A B : Nat → Nat) : Prop := ∀ x y, A x = A y → B x = B y
theorem Ref.jn {A B : Nat → Nat} (h : Ref A B) (a b : Nat) : Ref (Am.jn A a b) (Am.jn B a b) := by
  intro x y e
  unfold Am.jn at e ⊢
  by_cases c1 : A x = A a
  · have d1 := h _ _ c1
    rw [if_pos c1] at e
    rw [if_pos d1]
    by_cases c2 : A y = A a
    · rw [if_pos (h _ _ c2)]
    · rw [if_neg c2] at e
      have d2 := h _ _ e
      split <;> simp_all
  · rw [if_neg c1] at e
    by_cases c2 : A y = A a
    · rw [if_pos c2] at e
      have d2 := h _ _ c2
      have d3 := h _ _ e
      rw [if_pos d2]
      split <;> simp_all
    · rw [if_neg c2] at e
      rw [h _ _ e]
theorem Ref.jn1 {A B : Nat → Nat} (h : Ref A B) (a b : Nat) : Ref A (Am.jn B a b) := by
  intro x y e
  unfold Am.jn
  rw [h _ _ e]
theorem Ref.tie {A B : Nat → Nat} (h : Ref A B) {s t : ByteArray} (d : Dv) (hs : 0 ≤ qfD s d.1 → 0 ≤ qfD t d.1) : Ref (Am.tie s A d) (Am.tie t B d) := by
  have key : Ref (if 0 ≤ qfD s d.1 then Am.jn A (nd d 0) (nd d 1) else A) (if 0 ≤ qfD t d.1 then Am.jn B (nd d 0) (nd d 1) else B) := by
    by_cases c1 : 0 ≤ qfD s d.1
    · rw [if_pos c1, if_pos (hs c1)]; exact h.jn _ _
    · rw [if_neg c1]
      split
      · exact h.jn1 _ _
      · exact h
  unfold Am.tie
  split
  · exact key.jn _ _
  · exact key
theorem Ref.ties {s t : ByteArray} (hs : ∀ c, 0 ≤ qfD s c → 0 ≤ qfD t c) : ∀ (l : List Dv) (A B : Nat → Nat), Ref A B → Ref (l.foldl (Am.tie s) A) (l.foldl (Am.tie t) B)
  | [], _, _, h => h
  | d :: l, A, B, h => Ref.ties hs l _ _ (h.tie d (hs _))
def Chk (f0 : List ByteArray) (f1 : List Dv) (c : Int) : Prop := c = 0 → 1 ≤ f0.length ∧ f0.length ≤ 1000000000 ∧ f1.length ≤ 1000000000 ∧ ∀ d ∈ f1, OkD f0.length d
section
variable (f0 : List ByteArray) (f1 : List Dv) (f2 f3 f4 c : Int) (hc : Rn (fun k => qdm k f0 f1 f2 f3 f4) c) (hok : Chk f0 f1 c)
include hc
include hok
end
def qoP (l m : List Dv) : Prop := (l.map fun d => (d.1, d.2.2.1)).Perm (m.map fun d => (d.1, d.2.2.1))
theorem qoP.flat {l m : List Dv} (h : qoP l m) {β : Type} (f : Dv → List β) (g : Int × List Int → List β) (hg : ∀ d, f d = g (d.1, d.2.2.1)) : (l.flatMap f).Perm (m.flatMap f) := by
  have e : ∀ l : List Dv, l.flatMap f = (l.map fun d => (d.1, d.2.2.1)).flatMap g := fun l => by
    rw [List.flatMap_map]
    congr 1
    funext d
    exact hg d
  rw [e, e]
  exact h.flatMap_right _
theorem qoP.symm {l m : List Dv} (h : qoP l m) : qoP m l := List.Perm.symm h
theorem qvZ (l : List Int) (hl : l.length ≤ 1000000000000000000) : ∀ (d i : Nat) (m n : Int), i + d = l.length → Rl (fun k q => qar k q l m n (i : Int)) ((l.drop i).foldl min m, (l.drop i).foldl max n) := by
  intro d
  induction d with
  | zero =>
    intro i m n e
    obtain rfl : i = l.length := by omega
    refine Rl.up (f := fun k q => qar k q l m n (l.length : Int)) ?_
    show Rl (fun k q => qcj k (qar k q) _ _ _ _) _
    unfold qcj
    rw [List.drop_length]
    exact Rl.f (by simp) (Rl.pure _)
  | succ d ih =>
    intro i m n e
    have hi : i < l.length := by omega
    refine Rl.up (f := fun k q => qar k q l m n (i : Int)) ?_
    show Rl (fun k q => qcj k (qar k q) _ _ _ _) _
    unfold qcj
    rw [List.drop_eq_getElem_cons hi, List.foldl_cons, List.foldl_cons, qU (x := (i : Int) + 1) (by omega)]
    have eg := List.getElem?_eq_getElem hi
    exact Rl.t (by rw [decide_eq_true_eq]; omega) (Rl.t (by omega) (Rl.at (by rw [Int.toNat_natCast]; exact eg) (Rl.t (by omega) (Rl.at (by rw [Int.toNat_natCast]; exact eg) (ih (i + 1) _ _ (by omega))))))
theorem qyW (l : List Int) (hl : l.length ≤ 1000000000000000000) : Rn (fun k => qcu k l) (if qal l = 0 then (qtn l, qto l, 0) else (0, 0, qal l)) := by
  refine Rn.up (f := fun k => qcu k l) ?_
  show Rn (fun k => qfd k l) _
  unfold qfd
  refine Rn.bind (qgw l hl) ?_
  cases ho : l.any qcf
  rotate_left
  · have e : qal l = 4 := by unfold qal; rw [ho, if_pos rfl]
    rw [e, if_neg (show ¬ (4 : Int) = 0 by decide)]
    exact Rn.t rfl (Rn.pure _)
  refine Rn.f (by decide) ?_
  by_cases h0 : l.length = 0
  · have e : qal l = 6 := by unfold qal; rw [ho, if_neg (by decide), if_pos h0]
    rw [e, if_neg (show ¬ (6 : Int) = 0 by decide)]
    exact Rn.t (by simp [h0]) (Rn.pure _)
  have e : qal l = 0 := by unfold qal; rw [ho, if_neg (by decide), if_neg h0]
  rw [e, if_pos rfl]
  obtain ⟨x, r, rfl⟩ : ∃ x r, l = x :: r := by cases l with | nil => simp at h0 | cons x r => exact ⟨x, r, rfl⟩
  have h := qvZ (x :: r) hl (x :: r).length 0 x x (by omega)
  have e1 : (List.drop 0 (x :: r)).foldl min x = qtn (x :: r) := by
    show List.foldl min (min x x) r = List.foldl min x r
    rw [Int.min_self]
  have e2 : (List.drop 0 (x :: r)).foldl max x = qto (x :: r) := by
    show List.foldl max (max x x) r = List.foldl max x r
    rw [Int.max_self]
  rw [e1, e2] at h
  exact Rn.f (by rw [beq_iff_eq]; omega) (Rn.at rfl (Rn.at rfl (Rn.bind h.diag (Rn.pure _))))
theorem gv2 {a0 a2 : Bool} {a1 a3 : List Int} {q : Rat} (h : FrU a0 a1 a2 a3 q) (l1 : a1.length ≤ 100000) (l3 : a3.length ≤ 100000) : ∃ p r, Rn (fun k => qbQ k a0 a1 a2 a3) (a0, p, a2, r) ∧ Fr a0 p a2 r q := by
  obtain ⟨p, p1, p2, p3⟩ := qtj a0 a1 (by omega) h.1
  obtain ⟨r, r1, r2, r3⟩ := qtj a2 a3 (by omega) h.2
  exact ⟨p, r, Rn.up (f := fun k => qbQ k a0 a1 a2 a3) (Rn.bind p1 (Rn.bind r1 (Rn.pure _))), p2, r2⟩
theorem qv0 (l : List Int) (hl : l.length ≤ 2000) (ok : ∀ v ∈ l, okV v) (b1 b2 : Bool) (n1 n2 : Nat) : ∀ (d i : Nat) (s : Bool) (z a1 a2 : List Int) (p : Int), i + d = l.length → Nm U s z p → z.length ≤ 4 + i → p = (l.take i).sum →
    ∃ s' z' c1 c2, Rl (fun k q => qH k q (.inr (l, (i : Int), b1, n1, b2, n2, s, z, a1, a2))) (.inr (l, b1, n1, b2, n2, s', z', c1, c2)) ∧ Nm U s' z' l.sum ∧ z'.length ≤ 4 + l.length := by
  intro d
  induction d with
  | zero =>
    intro i s z a1 a2 p e nz hz hp
    obtain rfl : i = l.length := by omega
    refine ⟨s, z, a1, a2, Rl.up (f := fun k q => qH k q (.inr (l, (l.length : Int), b1, n1, b2, n2, s, z, a1, a2))) ?_, nz.cast (by rw [hp, List.take_length]), hz⟩
    show Rl (fun k q => qbh k (qH k q) _) _
    unfold qbh
    show Rl (fun k q => if (decide ((l.length : Int) < (l.length : Int))) = true then _ else _) _
    exact Rl.f (by simp) (Rl.pure _)
  | succ d ih =>
    intro i s z a1 a2 p e nz hz hp
    have hi : i < l.length := by omega
    have eg : l[i]? = some l[i] := List.getElem?_eq_getElem hi
    have hv := ok _ (List.getElem_mem hi)
    have et : l.take (i + 1) = l.take i ++ [l[i]] := by rw [List.take_add_one, eg]; rfl
    generalize l[i] = v at eg hv et
    unfold okV at hv
    obtain ⟨w, c1, c2, c3⟩ := qtm v (by omega)
    obtain ⟨s1, z1, d1, d2, d3⟩ := quj s (decide (v < 0)) z w nz c2 (by omega) (by omega)
    obtain ⟨s', z', g1, g2, k1, k2, k3⟩ := ih (i + 1) s1 z1 a1 a2 (p + v) (by omega) d2 (by omega) (by rw [et, List.sum_append, ← hp]; simp)
    refine ⟨s', z', g1, g2, Rl.up (f := fun k q => qH k q (.inr (l, (i : Int), b1, n1, b2, n2, s, z, a1, a2))) ?_, k2, k3⟩
    show Rl (fun k q => qbh k (qH k q) _) _
    unfold qbh
    show Rl (fun k q => if (decide ((i : Int) < (l.length : Int))) = true then if (0 : Int) ≤ (i : Int) then Option.bind l[(i : Int).toNat]? _ else none else _) _
    refine Rl.t (by rw [decide_eq_true_eq]; omega) (Rl.t (by omega) (Rl.at (by rw [Int.toNat_natCast]; exact eg) (Rl.bind c1 (Rl.bind d1 ?_))))
    show Rl (fun k q => qH k q (.inr (l, IntKind.i64.wrap ((i : Int) + 1), b1, n1, b2, n2, s1, z1, _, _))) _
    rw [qU (x := (i : Int) + 1) (by omega)]
    exact k1
theorem qyX (row : List Int) (hl : row.length ≤ 2000) (hk : qal row = 0) : ∃ s p t r, Rn (fun k => qa7 k row) (s, p, t, r, 0) ∧ Fr s p t r (Rat.divInt row.sum row.length) := by
  have hno : row.any qcf = false ∧ row.length ≠ 0 := by
    unfold qal at hk
    cases h : row.any qcf
    · rw [h, if_neg (by decide)] at hk
      exact ⟨rfl, fun e => by rw [if_pos e] at hk; omega⟩
    · rw [h, if_pos rfl] at hk; omega
  have ok : ∀ v ∈ row, okV v := fun v hv => qgO.1 (Bool.eq_false_iff.2 (List.any_eq_false.1 hno.1 v hv))
  have hi : 0 < row.length := by omega
  have eg : row[0]? = some row[0] := List.getElem?_eq_getElem hi
  have hv := ok _ (List.getElem_mem hi)
  have et : row.take 1 = [row[0]] := by rw [show (1 : Nat) = 0 + 1 from rfl, List.take_add_one, eg]; rfl
  generalize row[0] = v at eg hv et
  unfold okV at hv
  obtain ⟨w, c1, c2, c3⟩ := qtm v (by omega)
  have n0 : Nm U false [] 0 := ⟨Cn.nil, fun h => (by cases h), rfl⟩
  obtain ⟨s1, z1, d1, d2, d3⟩ := quj false (decide (v < 0)) [] w n0 c2 (Nat.zero_le _) (by omega)
  have hrec : ∀ y1 y2 : List Int, ∃ s' z' g1 g2, Rl (fun k q => qH k q (.inr (row, ((1 : Nat) : Int), false, 0, false, 0, s1, z1, y1, y2))) (.inr (row, false, 0, false, 0, s', z', g1, g2)) ∧ Nm U s' z' row.sum ∧ z'.length ≤ 4 + row.length := fun y1 y2 =>
    qv0 row hl ok false false 0 0 (row.length - 1) 1 s1 z1 y1 y2 (0 + v) (by omega) d2 (by have : ([] : List Int).length = 0 := rfl; omega) (by rw [et]; simp)
  obtain ⟨s', z', g1, g2, f1, f2, f3⟩ := hrec _ _
  have h0 : Rl (fun k q => qH k q (.inl (row, 0, false, 0, false, 0, false, 0, [], [], []))) (.inr (row, false, 0, false, 0, s', z', g1, g2)) := by
    refine Rl.up (f := fun k q => qH k q (.inl (row, 0, false, 0, false, 0, false, 0, [], [], []))) ?_
    show Rl (fun k q => qbh k (qH k q) _) _
    unfold qbh
    show Rl (fun k q => if (decide ((0 : Int) < (row.length : Int))) = true then if (0 : Int) ≤ (0 : Int) then Option.bind row[(0 : Int).toNat]? _ else none else _) _
    refine Rl.t (by rw [decide_eq_true_eq]; omega) (Rl.t (by omega) (Rl.at (by exact eg) (Rl.bind c1 (Rl.t (by simp) (Rl.bind d1 ?_)))))
    exact f1
  obtain ⟨m, e1, e2, e3⟩ := ql2 row.length (by omega)
  obtain ⟨s, p, t, r, q1, q2, q3, q4⟩ := qvY s' (decide ((row.length : Int) < 0)) z' m f2 e2 (by omega) (by omega) (by omega)
  obtain ⟨p', r', j1, j2⟩ := gv2 q2 (by omega) (by omega)
  refine ⟨s, p', t, r', Rn.up (f := fun k => qa7 k row) ?_, j2⟩
  show Rn (fun k => qc7 k row) _
  unfold qc7
  have ho := qgw row (by omega)
  rw [hno.1] at ho
  refine Rn.bind ho (Rn.f (by decide) (Rn.f (by rw [beq_iff_eq]; omega) (Rn.bind h0.diag ?_)))
  show Rn (fun k => Option.bind (qW k (row.length : Int)) _) _
  exact Rn.bind e1 (Rn.bind q1 (Rn.bind j1 (Rn.pure _)))
theorem qyY (row : List Int) (hl : row.length ≤ 2000) (hk : qal row ≠ 0) : Rn (fun k => qcC k row) (false, [], false, [], qal row) ∧ Rn (fun k => qa7 k row) (false, [], false, [], qal row) := by
  constructor
  · refine Rn.up (f := fun k => qcC k row) ?_
    show Rn (fun k => qe0 k row) _
    unfold qe0
    exact Rn.bind (qgP row (by omega)) (Rn.t (by simpa using hk) (Rn.pure _))
  · refine Rn.up (f := fun k => qa7 k row) ?_
    show Rn (fun k => qc7 k row) _
    unfold qc7
    refine Rn.bind (qgw row (by omega)) ?_
    cases ho : row.any qcf
    rotate_left
    · have e : qal row = 4 := by unfold qal; rw [ho, if_pos rfl]
      rw [e]; exact Rn.t rfl (Rn.pure _)
    refine Rn.f (by decide) ?_
    by_cases h0 : row.length = 0
    · have e : qal row = 6 := by unfold qal; rw [ho, if_neg (by decide), if_pos h0]
      rw [e]; exact Rn.t (by simp [h0]) (Rn.pure _)
    · exact absurd (show qal row = 0 by unfold qal; rw [ho, if_neg (by decide), if_neg h0]) hk
theorem qtp (a0 b0 : Bool) (a1 b1 : List Int) (hl : a1.length ≤ 1000000000000000000) : Rn (fun k => qbS k a0 a1 b0 b1) (decide (a0 = b0 ∧ a1 = b1)) := by
  refine Rn.up (f := fun k => qbS k a0 a1 b0 b1) ?_
  show Rn (fun k => qfj k a0 a1 b0 b1) _
  unfold qfj
  by_cases c0 : a0 = b0
  rotate_left
  · exact Rn.f (by cases a0 <;> cases b0 <;> simp_all) (Rn.const (congrArg some (decide_eq_false (fun h => c0 h.1)).symm))
  refine Rn.t (by simp [c0]) ?_
  by_cases hn : a1.length = b1.length
  rotate_left
  · exact Rn.t (by rw [bne_iff_ne]; omega) (Rn.const (congrArg some (decide_eq_false (fun h => hn (by rw [h.2]))).symm))
  refine Rn.f (by rw [bne_iff_ne]; omega) ?_
  obtain ⟨o, e1, e2⟩ := qxs a1.length 0 (fun k q i => qZ k q i a0 a1 b0 b1) (a0, a1, b0, b1) (fun x => x.1 = false) (fun j => a1[j]? = b1[j]?) (by
      refine Rl.up (f := fun k q => qZ k q a1.length a0 a1 b0 b1) ?_
      show Rl (fun k q => qbj k (qZ k q) _ _ _ _ _) _
      unfold qbj
      exact Rl.f (by simp) (Rl.pure _)) (by
      intro i hs hi hok o ho
      refine Rl.up (f := fun k q => qZ k q i a0 a1 b0 b1) ?_
      show Rl (fun k q => qbj k (qZ k q) _ _ _ _ _) _
      unfold qbj
      rw [qU (x := (i : Int) + 1) (by omega)]
      have ea := List.getElem?_eq_getElem hi
      have eb := hok
      rw [ea] at eb
      exact Rl.t (by first | omega | (simp only [decide_eq_true_eq, decide_eq_false_iff_not, Int.toNat_natCast, beq_iff_eq, bne_iff_ne, ne_eq, Int.not_lt, Int.not_le, ge_iff_le, gt_iff_lt, beq_eq_false_iff_ne, Nat.zero_add]; omega)) (Rl.t (by first | omega | (simp only [decide_eq_true_eq, decide_eq_false_iff_not, Int.toNat_natCast, beq_iff_eq, bne_iff_ne, ne_eq, Int.not_lt, Int.not_le, ge_iff_le, gt_iff_lt, beq_eq_false_iff_ne, Nat.zero_add]; omega)) (Rl.at (by rw [Int.toNat_natCast]; exact ea) (Rl.t (by first | omega | (simp only [decide_eq_true_eq, decide_eq_false_iff_not, Int.toNat_natCast, beq_iff_eq, bne_iff_ne, ne_eq, Int.not_lt, Int.not_le, ge_iff_le, gt_iff_lt, beq_eq_false_iff_ne, Nat.zero_add]; omega)) (Rl.at (by rw [Int.toNat_natCast]; exact eb.symm) (Rl.f (by simp) ho)))))) (by
      intro i hs hi hok
      refine ⟨(false, a0, a1, b0, b1), rfl, Rl.up (f := fun k q => qZ k q i a0 a1 b0 b1) ?_⟩
      show Rl (fun k q => qbj k (qZ k q) _ _ _ _ _) _
      unfold qbj
      have ea := List.getElem?_eq_getElem hi
      have eb := List.getElem?_eq_getElem (show i < b1.length by omega)
      exact Rl.t (by first | omega | (simp only [decide_eq_true_eq, decide_eq_false_iff_not, Int.toNat_natCast, beq_iff_eq, bne_iff_ne, ne_eq, Int.not_lt, Int.not_le, ge_iff_le, gt_iff_lt, beq_eq_false_iff_ne, Nat.zero_add]; omega)) (Rl.t (by first | omega | (simp only [decide_eq_true_eq, decide_eq_false_iff_not, Int.toNat_natCast, beq_iff_eq, bne_iff_ne, ne_eq, Int.not_lt, Int.not_le, ge_iff_le, gt_iff_lt, beq_eq_false_iff_ne, Nat.zero_add]; omega)) (Rl.at (by rw [Int.toNat_natCast]; exact ea) (Rl.t (by first | omega | (simp only [decide_eq_true_eq, decide_eq_false_iff_not, Int.toNat_natCast, beq_iff_eq, bne_iff_ne, ne_eq, Int.not_lt, Int.not_le, ge_iff_le, gt_iff_lt, beq_eq_false_iff_ne, Nat.zero_add]; omega)) (Rl.at (by rw [Int.toNat_natCast]; exact eb) (Rl.t (by rw [bne_iff_ne]; intro e; exact hok (by rw [ea, eb, e])) (Rl.pure _))))))) a1.length 0 (by omega) (by omega)
  refine Rn.bind e1.diag ?_
  rcases e2 with ⟨e2, rfl⟩ | ⟨e2, x, hx, rfl⟩
  · have e : a1 = b1 := List.ext_getElem? fun j => by
      rcases Nat.lt_or_ge j a1.length with h | h
      · exact e2 j (Nat.zero_le _) h
      · rw [List.getElem?_eq_none h, List.getElem?_eq_none (by omega)]
    rw [decide_eq_true ⟨c0, e⟩]
    exact Rn.pure _
  · rw [decide_eq_false (fun e => e2 fun j _ _ => by rw [e.2])]
    show Rn (fun k => some x.1) false
    rw [hx]
    exact Rn.pure _
theorem qum (a0 a2 : Bool) (a1 a3 : List Int) (h1 : a1.length ≤ 1000000000000000000) (h3 : a3.length ≤ 1000000000000000000) : Rn (fun k => qbT k a0 a1 a2 a3 a0 a1 a2 a3) true := by
  refine Rn.up (f := fun k => qbT k a0 a1 a2 a3 a0 a1 a2 a3) ?_
  show Rn (fun k => qfk k a0 a1 a2 a3 a0 a1 a2 a3) _
  unfold qfk
  have e1 := qtp a0 a0 a1 a1 h1
  have e2 := qtp a2 a2 a3 a3 h3
  rw [decide_eq_true ⟨rfl, rfl⟩] at e1 e2
  exact Rn.bind e1 (Rn.t rfl (Rn.bind e2 (Rn.pure _)))
theorem qz2 (row : List Int) (hl : row.length ≤ 2000) : ∃ s p t r, Rn (fun k => qcC k row) (s, p, t, r, qal row) ∧ Rn (fun k => qa7 k row) (s, p, t, r, qal row) ∧ Rn (fun k => qbT k s p t r s p t r) true := by
  by_cases hk : qal row = 0
  · obtain ⟨s, p, t, r, m1, m2, m3, m4, m5, m6⟩ := qAJ row hl hk
    obtain ⟨s', p', t', r', n1, n2⟩ := qyX row hl hk
    obtain ⟨rfl, rfl⟩ := Nm.ext (B := W) (by decide) m2.1 n2.1
    obtain ⟨rfl, rfl⟩ := Nm.ext (B := W) (by decide) m2.2 n2.2
    rw [hk]
    exact ⟨s, p, t, r, m1, n1, qum s t p r (by omega) (by omega)⟩
  · obtain ⟨m1, n1⟩ := qyY row hl hk
    exact ⟨_, _, _, _, m1, n1, qum _ _ _ _ (Nat.zero_le _) (Nat.zero_le _)⟩
theorem qKG (row : List Int) (hl : row.length ≤ 2000) (level nth : Int) (hn : 1 ≤ nth ∧ nth ≤ 9223372036854775807) : ∀ (d i : Nat) (n : Int), i + d = row.length → 1 ≤ i → 0 ≤ n → n < nth →
    ∃ o, Rl (fun k q => qay k q row level (nth - n) (i : Int)) o ∧ Rl (fun k q => qO k q row level nth n (i : Int)) o := by
  intro d
  induction d with
  | zero =>
    intro i n e h1 h2 h3
    obtain rfl : i = row.length := by omega
    refine ⟨.inr (), Rl.up (f := fun k q => qay k q row level (nth - n) (row.length : Int)) ?_, Rl.up (f := fun k q => qO k q row level nth n (row.length : Int)) ?_⟩
    · show Rl (fun k q => qcl k (qay k q) _ _ _ _) _
      unfold qcl
      exact Rl.f (by simp) (Rl.pure _)
    · show Rl (fun k q => qbi k (qO k q) _ _ _ _ _) _
      unfold qbi
      exact Rl.f (by simp) (Rl.pure _)
  | succ d ih =>
    intro i n e h1 h2 h3
    have hi : i < row.length := by omega
    have eg : row[i]? = some row[i] := List.getElem?_eq_getElem hi
    have eg1 : row[i - 1]? = some (row[i - 1]'(by omega)) := List.getElem?_eq_getElem (by omega)
    generalize row[i] = v at eg
    generalize row[i - 1]'(by omega) = u at eg1
    have w1 : IntKind.i64.wrap ((i : Int) - 1) = ((i - 1 : Nat) : Int) := by rw [qU (by omega)]; omega
    have w2 : IntKind.i64.wrap ((i : Int) + 1) = ((i + 1 : Nat) : Int) := by rw [qU (by omega)]; omega
    have up : ∀ o, Rl (fun k q => qcl k (qay k q) row level (nth - n) (i : Int)) o → Rl (fun k q => qbi k (qO k q) row level nth n (i : Int)) o →
        Rl (fun k q => qay k q row level (nth - n) (i : Int)) o ∧ Rl (fun k q => qO k q row level nth n (i : Int)) o := fun o a b =>
      ⟨Rl.up (f := fun k q => qay k q row level (nth - n) (i : Int)) a, Rl.up (f := fun k q => qO k q row level nth n (i : Int)) b⟩
    unfold qcl qbi at up
    rw [w1, w2] at up
    by_cases c1 : u < level
    · by_cases c2 : v ≥ level
      · by_cases c3 : n + 1 = nth
        · refine ⟨.inl ((i : Int), 0), up _ ?_ ?_⟩
          · refine Rl.t (by rw [decide_eq_true_eq]; omega) (Rl.t (by omega) (Rl.at (by rw [Int.toNat_natCast]; exact eg1) (Rl.t (decide_eq_true c1) (Rl.t (by omega) (Rl.at (by rw [Int.toNat_natCast]; exact eg) (Rl.t (decide_eq_true c2) (Rl.t ?_ (Rl.pure _))))))))
            rw [qU (by omega), beq_iff_eq]; omega
          · refine Rl.t (by rw [decide_eq_true_eq]; omega) (Rl.t (by omega) (Rl.at (by rw [Int.toNat_natCast]; exact eg) (Rl.t (decide_eq_true c2) (Rl.t (by omega) (Rl.at (by rw [Int.toNat_natCast]; exact eg1) (Rl.t (decide_eq_true c1) (Rl.t ?_ (Rl.pure _))))))))
            rw [qU (by omega), beq_iff_eq]; omega
        · obtain ⟨o, o1, o2⟩ := ih (i + 1) (n + 1) (by omega) (by omega) (by omega) (by omega)
          refine ⟨o, up _ ?_ ?_⟩
          · refine Rl.t (by rw [decide_eq_true_eq]; omega) (Rl.t (by omega) (Rl.at (by rw [Int.toNat_natCast]; exact eg1) (Rl.t (decide_eq_true c1) (Rl.t (by omega) (Rl.at (by rw [Int.toNat_natCast]; exact eg) (Rl.t (decide_eq_true c2) ?_))))))
            rw [qU (x := nth - n - 1) (by omega)]
            refine Rl.f (by rw [beq_iff_eq]; omega) ?_
            rw [show nth - n - 1 = nth - (n + 1) by omega]
            exact o1
          · refine Rl.t (by rw [decide_eq_true_eq]; omega) (Rl.t (by omega) (Rl.at (by rw [Int.toNat_natCast]; exact eg) (Rl.t (decide_eq_true c2) (Rl.t (by omega) (Rl.at (by rw [Int.toNat_natCast]; exact eg1) (Rl.t (decide_eq_true c1) ?_))))))
            rw [qU (x := n + 1) (by omega)]
            exact Rl.f (by rw [beq_iff_eq]; omega) o2
      · obtain ⟨o, o1, o2⟩ := ih (i + 1) n (by omega) (by omega) (by omega) (by omega)
        refine ⟨o, up _ ?_ ?_⟩
        · exact Rl.t (by rw [decide_eq_true_eq]; omega) (Rl.t (by omega) (Rl.at (by rw [Int.toNat_natCast]; exact eg1) (Rl.t (decide_eq_true c1) (Rl.t (by omega) (Rl.at (by rw [Int.toNat_natCast]; exact eg) (Rl.f (by rw [decide_eq_true_eq]; exact c2) o1))))))
        · exact Rl.t (by rw [decide_eq_true_eq]; omega) (Rl.t (by omega) (Rl.at (by rw [Int.toNat_natCast]; exact eg) (Rl.f (by rw [decide_eq_true_eq]; exact c2) o2)))
    · obtain ⟨o, o1, o2⟩ := ih (i + 1) n (by omega) (by omega) (by omega) (by omega)
      refine ⟨o, up _ ?_ ?_⟩
      · exact Rl.t (by rw [decide_eq_true_eq]; omega) (Rl.t (by omega) (Rl.at (by rw [Int.toNat_natCast]; exact eg1) (Rl.f (by rw [decide_eq_true_eq]; exact c1) o1)))
      · refine Rl.t (by rw [decide_eq_true_eq]; omega) (Rl.t (by omega) (Rl.at (by rw [Int.toNat_natCast]; exact eg) ?_))
        by_cases c2 : v ≥ level
        · exact Rl.t (decide_eq_true c2) (Rl.t (by omega) (Rl.at (by rw [Int.toNat_natCast]; exact eg1) (Rl.f (by rw [decide_eq_true_eq]; exact c1) o2)))
        · exact Rl.f (by rw [decide_eq_true_eq]; exact c2) o2
theorem qtq (v : Int) : Rn (fun k => qS k (List.take 1 [v])) (qcf v) := by
  have h := qgw [v] (by simp)
  rw [show [v].any qcf = qcf v by simp] at h
  exact h
theorem qoQ (row : List Int) : qal row = 4 ↔ row.any qcf = true := by
  unfold qal
  cases row.any qcf
  · simp; split <;> simp
  · simp
theorem qw6 (row : List Int) (hl : row.length ≤ 2000) (level nth : Int) (hn : nth ≤ 9223372036854775807) : ∃ x e, Rn (fun k => qcW k row level nth) (x, e) ∧ Rn (fun k => qbR k row level nth) (x, e) := by
  have up : ∀ x e, Rn (fun k => qg4 k row level nth) (x, e) → Rn (fun k => qfi k row level nth) (x, e) → Rn (fun k => qcW k row level nth) (x, e) ∧ Rn (fun k => qbR k row level nth) (x, e) := fun x e a b =>
    ⟨Rn.up (f := fun k => qcW k row level nth) a, Rn.up (f := fun k => qbR k row level nth) b⟩
  unfold qg4 qfi at up
  by_cases h1 : nth < 1
  · exact ⟨0, 1, up _ _ (Rn.t (decide_eq_true h1) (Rn.pure _)) (Rn.t (decide_eq_true h1) (Rn.pure _))⟩
  have hp := qpD level
  have hq := qtq level
  have ho := qgw row (by omega)
  have hk := qgP row (by omega)
  have h4 := qoQ row
  cases hv : qcf level
  · rw [hv] at hp hq
    cases hr : row.any qcf
    · rw [hr] at ho h4
      have h4' : qal row ≠ 4 := fun e => by simpa using h4.1 e
      obtain ⟨o, o1, o2⟩ : ∃ o, Rl (fun k q => qay k q row level nth 1) o ∧ Rl (fun k q => qO k q row level nth 0 1) o := by
        by_cases hz : row.length = 0
        · have : row = [] := List.length_eq_zero_iff.1 hz
          subst this
          refine ⟨.inr (), Rl.up (f := fun k q => qay k q [] level nth 1) ?_, Rl.up (f := fun k q => qO k q [] level nth 0 1) ?_⟩
          · show Rl (fun k q => qcl k (qay k q) _ _ _ _) _
            unfold qcl
            exact Rl.f (by simp) (Rl.pure _)
          · show Rl (fun k q => qbi k (qO k q) _ _ _ _ _) _
            unfold qbi
            exact Rl.f (by simp) (Rl.pure _)
        · have := qKG row hl level nth ⟨by omega, hn⟩ (row.length - 1) 1 0 (by omega) (by omega) (by omega) (by omega)
          rw [Int.sub_zero] at this
          exact this
      cases o with
      | inl a => exact ⟨a.1, a.2, up _ _ (Rn.f (by rw [decide_eq_true_eq]; exact h1) (Rn.bind hp (Rn.t rfl (Rn.bind hk (Rn.f (by rw [beq_iff_eq]; exact h4') (Rn.bind o1.diag (Rn.pure _))))))) (Rn.f (by rw [decide_eq_true_eq]; exact h1) (Rn.bind ho (Rn.t rfl (Rn.bind hq (Rn.f (by decide) (Rn.bind o2.diag (Rn.pure _)))))))⟩
      | inr a => exact ⟨0, 6, up _ _ (Rn.f (by rw [decide_eq_true_eq]; exact h1) (Rn.bind hp (Rn.t rfl (Rn.bind hk (Rn.f (by rw [beq_iff_eq]; exact h4') (Rn.bind o1.diag (Rn.pure _))))))) (Rn.f (by rw [decide_eq_true_eq]; exact h1) (Rn.bind ho (Rn.t rfl (Rn.bind hq (Rn.f (by decide) (Rn.bind o2.diag (Rn.pure _)))))))⟩
    · rw [hr] at ho h4
      exact ⟨0, 4, up _ _ (Rn.f (by rw [decide_eq_true_eq]; exact h1) (Rn.bind hp (Rn.t rfl (Rn.bind hk (Rn.t (by rw [beq_iff_eq]; exact h4.2 rfl) (Rn.pure _)))))) (Rn.f (by rw [decide_eq_true_eq]; exact h1) (Rn.bind ho (Rn.f (by decide) (Rn.pure _))))⟩
  · rw [hv] at hp hq
    refine ⟨0, 4, up _ _ (Rn.f (by rw [decide_eq_true_eq]; exact h1) (Rn.bind hp (Rn.f (by decide) (Rn.pure _)))) (Rn.f (by rw [decide_eq_true_eq]; exact h1) (Rn.bind ho ?_))⟩
    cases hr : row.any qcf
    · exact Rn.t rfl (Rn.bind hq (Rn.t rfl (Rn.pure _)))
    · exact Rn.f (by decide) (Rn.pure _)
def Stl (row : List Int) (level band : Int) (a : Nat) : Prop := a ≤ row.length ∧ (∀ j v, a ≤ j → row[j]? = some v → Wi v level band) ∧ (∀ v, 0 < a → row[a - 1]? = some v → ¬ Wi v level band)
theorem Stl.uniq {row : List Int} {level band : Int} {a b : Nat} (h : Stl row level band a) (k : Stl row level band b) : a = b := by
  have key : ∀ {a b : Nat}, Stl row level band a → Stl row level band b → ¬ a < b := by
    intro a b h k c
    have hb := k.1
    have eg : row[b - 1]? = some (row[b - 1]'(by omega)) := List.getElem?_eq_getElem (by omega)
    exact k.2.2 _ (by omega) eg (h.2.1 (b - 1) _ (by omega) eg)
  have h1 := key h k
  have h2 := key k h
  omega
theorem qyZ (row : List Int) (hl : row.length ≤ 2000) (level band : Int) (hv : okV level) (ok : ∀ v ∈ row, okV v) : ∀ (a : Nat), a ≤ row.length → (∀ j v, a ≤ j → row[j]? = some v → Wi v level band) →
    ∃ b : Nat, Stl row level band b ∧ Rl (fun k q => qaz k q row level band (a : Int)) (row, (b : Int)) := by
  intro a
  induction a with
  | zero =>
    intro h1 h2
    refine ⟨0, ⟨Nat.zero_le _, h2, fun v h => absurd h (by omega)⟩, Rl.up (f := fun k q => qaz k q row level band ((0 : Nat) : Int)) ?_⟩
    show Rl (fun k q => qbL k (qaz k q) _ _ _ _) _
    unfold qbL
    exact Rl.f (by simp) (Rl.pure _)
  | succ a ih =>
    intro h1 h2
    have ha : a < row.length := by omega
    have eg : row[a]? = some row[a] := List.getElem?_eq_getElem ha
    have hx := ok _ (List.getElem_mem ha)
    generalize row[a] = x at eg hx
    have w1 : IntKind.i64.wrap (((a + 1 : Nat) : Int) - 1) = (a : Int) := by rw [qU (by omega)]; omega
    unfold okV at hx hv
    have w2 : IntKind.i64.wrap (x - level) = x - level := qU (by omega)
    have w3 : IntKind.i64.wrap (level - x) = level - x := qU (by omega)
    by_cases c : Wi x level band
    · obtain ⟨b, b1, b2⟩ := ih (by omega) (fun j v hj e => by
        rcases Nat.eq_or_lt_of_le hj with k | k
        · subst k; rw [eg] at e; cases e; exact c
        · exact h2 j v (by omega) e)
      refine ⟨b, b1, Rl.up (f := fun k q => qaz k q row level band ((a + 1 : Nat) : Int)) ?_⟩
      show Rl (fun k q => qbL k (qaz k q) _ _ _ _) _
      unfold qbL
      rw [w1]
      unfold Wi at c
      refine Rl.t (by rw [decide_eq_true_eq]; omega) (Rl.t (by omega) (Rl.at (by rw [Int.toNat_natCast]; exact eg) (Rl.t (by rw [decide_eq_true_eq, w2]; omega) (Rl.t (by omega) (Rl.at (by rw [Int.toNat_natCast]; exact eg) (Rl.t (by rw [decide_eq_true_eq, w3]; omega) b2))))))
    · refine ⟨a + 1, ⟨by omega, h2, fun v _ e => by rw [Nat.add_sub_cancel, eg] at e; cases e; exact c⟩, Rl.up (f := fun k q => qaz k q row level band ((a + 1 : Nat) : Int)) ?_⟩
      show Rl (fun k q => qbL k (qaz k q) _ _ _ _) _
      unfold qbL
      rw [w1]
      refine Rl.t (by rw [decide_eq_true_eq]; omega) (Rl.t (by omega) (Rl.at (by rw [Int.toNat_natCast]; exact eg) ?_))
      unfold Wi at c
      by_cases c1 : x - level ≤ band
      · exact Rl.t (by rw [decide_eq_true_eq, w2]; exact c1) (Rl.t (by omega) (Rl.at (by rw [Int.toNat_natCast]; exact eg) (Rl.f (by rw [decide_eq_true_eq, w3]; omega) (Rl.pure _))))
      · exact Rl.f (by rw [decide_eq_true_eq, w2]; exact c1) (Rl.pure _)
theorem qy0 (row : List Int) (hl : row.length ≤ 2000) (level band : Int) (hv : okV level) (ok : ∀ v ∈ row, okV v) : ∀ (d i a : Nat), i + d = row.length → a ≤ i → (∀ j v, a ≤ j → j < i → row[j]? = some v → Wi v level band) → (∀ v, 0 < a → row[a - 1]? = some v → ¬ Wi v level band) →
    ∃ b : Nat, Stl row level band b ∧ Rl (fun k q => qP k q row level band (a : Int) (i : Int)) (row, (b : Int)) := by
  intro d
  induction d with
  | zero =>
    intro i a e h1 h2 h3
    obtain rfl : i = row.length := by omega
    refine ⟨a, ⟨h1, fun j v hj e => h2 j v hj (List.getElem?_eq_some_iff.1 e).1 e, h3⟩, Rl.up (f := fun k q => qP k q row level band (a : Int) (row.length : Int)) ?_⟩
    show Rl (fun k q => qaU k (qP k q) _ _ _ _ _) _
    unfold qaU
    exact Rl.f (by simp) (Rl.pure _)
  | succ d ih =>
    intro i a e h1 h2 h3
    have hi : i < row.length := by omega
    have eg : row[i]? = some row[i] := List.getElem?_eq_getElem hi
    have hx := ok _ (List.getElem_mem hi)
    generalize row[i] = x at eg hx
    have w1 : IntKind.i64.wrap ((i : Int) + 1) = ((i + 1 : Nat) : Int) := by rw [qU (by omega)]; omega
    by_cases c : Wi x level band
    · obtain ⟨b, b1, b2⟩ := ih (i + 1) a (by omega) (by omega) (fun j v hj hj2 e' => by
        rcases Nat.lt_or_ge j i with k | k
        · exact h2 j v hj k e'
        · have : j = i := by omega
          subst this
          rw [eg] at e'; cases e'; exact c) h3
      refine ⟨b, b1, Rl.up (f := fun k q => qP k q row level band (a : Int) (i : Int)) ?_⟩
      show Rl (fun k q => qaU k (qP k q) _ _ _ _ _) _
      unfold qaU
      rw [w1]
      exact Rl.t (by rw [decide_eq_true_eq]; omega) (Rl.t (by omega) (Rl.at (by rw [Int.toNat_natCast]; exact eg) (Rl.bind (qyA hx hv c) (Rl.f (by decide) b2))))
    · obtain ⟨b, b1, b2⟩ := ih (i + 1) (i + 1) (by omega) (by omega) (fun j v hj hj2 e => absurd hj2 (by omega)) (fun v _ e => by rw [Nat.add_sub_cancel, eg] at e; cases e; exact c)
      refine ⟨b, b1, Rl.up (f := fun k q => qP k q row level band (a : Int) (i : Int)) ?_⟩
      show Rl (fun k q => qaU k (qP k q) _ _ _ _ _) _
      unfold qaU
      rw [w1]
      exact Rl.t (by rw [decide_eq_true_eq]; omega) (Rl.t (by omega) (Rl.at (by rw [Int.toNat_natCast]; exact eg) (Rl.bind (qyB hx hv c) (Rl.t (by decide) b2))))
theorem qtV (row : List Int) (hl : row.length ≤ 2000) (level band : Int) : ∃ x e, Rn (fun k => qcd k row level band) (x, e) ∧ Rn (fun k => qbt k row level band) (x, e) := by
  have up : ∀ x e, Rn (fun k => qgj k row level band) (x, e) → Rn (fun k => qet k row level band) (x, e) → Rn (fun k => qcd k row level band) (x, e) ∧ Rn (fun k => qbt k row level band) (x, e) := fun x e a b =>
    ⟨Rn.up (f := fun k => qcd k row level band) a, Rn.up (f := fun k => qbt k row level band) b⟩
  unfold qgj qet at up
  by_cases h1 : band < 0
  · exact ⟨0, 1, up _ _ (Rn.t (decide_eq_true h1) (Rn.pure _)) (Rn.t (decide_eq_true h1) (Rn.pure _))⟩
  have hp := qpD level
  have hq := qtq level
  have ho := qgw row (by omega)
  have hk := qgP row (by omega)
  have h4 := qoQ row
  cases hv : qcf level
  · rw [hv] at hp hq
    cases hr : row.any qcf
    · rw [hr] at ho h4
      have h4' : qal row ≠ 4 := fun e => by simpa using h4.1 e
      have ok : ∀ v ∈ row, okV v := fun v hv => qgO.1 (Bool.eq_false_iff.2 (List.any_eq_false.1 hr v hv))
      obtain ⟨b, b1, b2⟩ := qyZ row hl level band (qgO.1 hv) ok row.length (Nat.le_refl _) (fun j v hj e => absurd (List.getElem?_eq_some_iff.1 e).1 (by omega))
      obtain ⟨b', c1, c2⟩ := qy0 row hl level band (qgO.1 hv) ok row.length 0 0 (by omega) (Nat.le_refl _) (fun j v _ hj => absurd hj (by omega)) (fun v h => absurd h (by omega))
      obtain rfl := b1.uniq c1
      have hb := b1.1
      by_cases cb : b = row.length
      · refine ⟨0, 6, up _ _ (Rn.f (by rw [decide_eq_true_eq]; exact h1) (Rn.bind hp (Rn.t rfl (Rn.bind hk (Rn.f (by rw [beq_iff_eq]; exact h4') (Rn.bind b2.diag (Rn.t ?_ (Rn.pure _)))))))) (Rn.f (by rw [decide_eq_true_eq]; exact h1) (Rn.bind ho (Rn.t rfl (Rn.bind hq (Rn.f (by decide) (Rn.bind c2.diag (Rn.t ?_ (Rn.pure _))))))))⟩
        · show ((b : Int) == (row.length : Int)) = true
          rw [beq_iff_eq]; omega
        · show decide ((b : Int) ≥ (row.length : Int)) = true
          rw [decide_eq_true_eq]; omega
      · refine ⟨b, 0, up _ _ (Rn.f (by rw [decide_eq_true_eq]; exact h1) (Rn.bind hp (Rn.t rfl (Rn.bind hk (Rn.f (by rw [beq_iff_eq]; exact h4') (Rn.bind b2.diag (Rn.f ?_ (Rn.pure _)))))))) (Rn.f (by rw [decide_eq_true_eq]; exact h1) (Rn.bind ho (Rn.t rfl (Rn.bind hq (Rn.f (by decide) (Rn.bind c2.diag (Rn.f ?_ (Rn.pure _))))))))⟩
        · show ¬ ((b : Int) == (row.length : Int)) = true
          rw [beq_iff_eq]; omega
        · show ¬ decide ((b : Int) ≥ (row.length : Int)) = true
          rw [decide_eq_true_eq]; omega
    · rw [hr] at ho h4
      exact ⟨0, 4, up _ _ (Rn.f (by rw [decide_eq_true_eq]; exact h1) (Rn.bind hp (Rn.t rfl (Rn.bind hk (Rn.t (by rw [beq_iff_eq]; exact h4.2 rfl) (Rn.pure _)))))) (Rn.f (by rw [decide_eq_true_eq]; exact h1) (Rn.bind ho (Rn.f (by decide) (Rn.pure _))))⟩
  · rw [hv] at hp hq
    refine ⟨0, 4, up _ _ (Rn.f (by rw [decide_eq_true_eq]; exact h1) (Rn.bind hp (Rn.f (by decide) (Rn.pure _)))) (Rn.f (by rw [decide_eq_true_eq]; exact h1) (Rn.bind ho ?_))⟩
    cases hr : row.any qcf
    · exact Rn.t rfl (Rn.bind hq (Rn.t rfl (Rn.pure _)))
    · exact Rn.f (by decide) (Rn.pure _)
theorem qAK (a : List Int) (ha : a.length ≤ 1000000000000000000) : Rn (fun k => qca k a a) true := by
  refine Rn.up (f := fun k => qca k a a) ?_
  show Rn (fun k => qeO k a a) _
  unfold qeO
  have main : ∀ (d i : Nat), i + d = a.length → Rl (fun k q => qan k q a a (i : Int)) (.inr ()) := by
    intro d
    induction d with
    | zero =>
      intro i e
      obtain rfl : i = a.length := by omega
      refine Rl.up (f := fun k q => qan k q a a (a.length : Int)) ?_
      show Rl (fun k q => qb8 k (qan k q) _ _ _) _
      unfold qb8
      exact Rl.f (by simp) (Rl.pure _)
    | succ d ih =>
      intro i e
      have hi : i < a.length := by omega
      have eg := List.getElem?_eq_getElem hi
      refine Rl.up (f := fun k q => qan k q a a (i : Int)) ?_
      show Rl (fun k q => qb8 k (qan k q) _ _ _) _
      unfold qb8
      rw [qU (x := (i : Int) + 1) (by omega)]
      exact Rl.t (by rw [decide_eq_true_eq]; omega) (Rl.t (by omega) (Rl.at (by rw [Int.toNat_natCast]; exact eg) (Rl.t (by omega) (Rl.at (by rw [Int.toNat_natCast]; exact eg) (Rl.f (by simp) (ih (i + 1) (by omega)))))))
  exact Rn.f (by simp) (Rn.bind (main a.length 0 (by omega)).diag (Rn.pure _))
theorem qy1 (row : List Int) (hl : row.length ≤ 1000000000000000) (m0 m1 m2 : Int) (h2 : m2 ≤ 9223372036854775807) : Rn (fun k => qaQ k row m0 m1 m2) true := by
  refine Rn.up (f := fun k => qaQ k row m0 m1 m2) ?_
  show Rn (fun k => qcT k row m0 m1 m2) _
  unfold qcT
  refine Rn.bind qvN (Rn.f (by decide) ?_)
  by_cases h3 : (row.length : Int) > 2000
  · exact Rn.t (decide_eq_true h3) (Rn.pure _)
  have hl2 : row.length ≤ 2000 := by omega
  have e1 : List.take 1 [(-77 : Int)] = [-77] := rfl
  have e2 : (row ++ [(-77 : Int)]).length = row.length + 1 := by rw [List.length_append]; rfl
  have e3 : List.take row.length (row ++ [(-77 : Int)]) = row := List.take_left
  have e4 : (row ++ [(-77 : Int)])[row.length]? = some (-77) := by rw [List.getElem?_append_right (Nat.le_refl _), Nat.sub_self]; rfl
  have e5 : IntKind.i64.wrap ((row.length : Int) + 1) = ((row.length + 1 : Nat) : Int) := by rw [qU (by omega)]; omega
  simp only [List.take_zero, List.nil_append, Nat.zero_add, List.take_length, Int.toNat_natCast, e1, e2, e3, e4, e5]
  obtain ⟨s, p, t, r, a1, a2, a3⟩ := qz2 row hl2
  obtain ⟨x, e, b1, b2⟩ := qw6 row hl2 m0 m2 h2
  obtain ⟨y, z, c1, c2⟩ := qtV row hl2 m0 m1
  have d1 := qAG row (by omega)
  have d2 := qyW row (by omega)
  generalize (if qal row = 0 then (qtn row, qto row, (0 : Int)) else (0, 0, qal row)) = sp at d1 d2
  refine Rn.f (by rw [decide_eq_true_eq]; exact h3) (Rn.t (by omega) (Rn.t (Nat.le_refl _) (Rn.t (by omega) (Rn.t (by refine ⟨by omega, by omega, by omega, .inr trivial⟩) (Rn.t (by omega) (Rn.bind d1 (Rn.bind d2 (Rn.t (by omega) (Rn.bind a1 (Rn.bind a2 (Rn.t (by omega) (Rn.bind b1 (Rn.bind b2 (Rn.t (by omega) (Rn.bind c1 (Rn.bind c2 ?_))))))))))))))))
  refine Rn.t (by simp) (Rn.t (by simp) (Rn.t (by simp) (Rn.bind a3 (Rn.t (by decide) (Rn.t (by simp) (Rn.t (by simp) (Rn.t (by simp) (Rn.t (by simp) (Rn.f (by simp) ?_)))))))))
  exact Rn.t (by omega) (Rn.bind (qAK row (by omega)) (Rn.t rfl (Rn.t (by refine ⟨by omega, by omega, by omega, .inr trivial⟩) (Rn.t (by omega) (Rn.at rfl (Rn.pure _))))))
theorem qjC (row : List Int) (m : Int × Int × Int) (w : Wfd (.sl (.int .i64)) row) (wm : Wfd (.pr (.int .i64) (.pr (.int .i64) (.int .i64))) m) : ∃ k, qaQ k row m.1 m.2.1 m.2.2 = some true := by
  have h := w.1.2
  simp only [Cd.by, reachBytes] at h
  have h2 := wm.2.2
  simp only [Wfd, Lit.wf, IntKind.min, IntKind.max, IntKind.signed, IntKind.bits] at h2
  have hb : m.2.2 ≤ 9223372036854775807 := by simp at h2; omega
  obtain ⟨K, h⟩ := qy1 row (by omega) m.1 m.2.1 m.2.2 hb
  exact ⟨K, h K (Nat.le_refl _)⟩
end Go.Proofs.YtlnailgfialgnaaGreatDoor.Am
namespace Go.Proofs.YtlnailgfialgnaaGreatDoor.probeMeasures
open Go.ChangeShapes Go.WideShapes Go.ChangeAt Go.RowKit
open Go.Proofs.YtlnailgfialgnaaGreatDoor.Am
set_option linter.unusedVariables false
theorem own : ownKnob Tryz.prog.godebug = none := by kernel_rfl
theorem laidOut : laidOutB Tryz.prog = true := by kernel_rfl
set_option maxRecDepth 100000 in
theorem lifted (os : Os) (started : os.Started) (H : Type) (enc : TypeId × Value → H) :
    ReturnsInHanded {} Tryz.checked os 7 .any (fun w args => (Rows.probeMeasuresSpec.pre enc Tryz.prog Tryz.f7 Rows.probeMeasuresRow.domain false w args ∧ laidMetH Tryz.prog Rows.probeMeasuresRow.laid w) ∧ sizedMet enc Tryz.prog Tryz.f7 (OpenSpec.ofChange Rows.probeMeasuresSpec) false w args) (Rows.probeMeasuresSpec.post enc Tryz.prog Tryz.f7 false true false false) := by
  refine returnsInHanded_of_change_and (C := Tryz.checked) (X := fun w _ => laidMetH Tryz.prog Rows.probeMeasuresRow.laid w) (fun _ _ _ hh h => h.of_heap hh) own started (by kernel_rfl) Tryz.func7
    (ChangeSpec.witness_shaped (enc := enc) (C := Tryz.checked) (os := os) (X := fun w _ => laidMetH Tryz.prog Rows.probeMeasuresRow.laid w) false (World.laidAll Tryz.prog os Rows.probeMeasuresRow.laid) #[.slice none 0 0, .agg #[.int .i64 0, .int .i64 0, .int .i64 0]] 8 (World.laidAll_os _ _ _)
      (World.shaped_of_ZipB (by kernel_rfl) (by kernel_rfl)) (by kernel_rfl) (by kernel_rfl) (by kernel_rfl)
      (by rw [MakeChecks.laidMetH_plain _ _ _ (by kernel_rfl)]; exact laidMet_laidAll _ (by kernel_rfl) (by kernel_rfl))) ?_
  intro W base args ds gs before hval0 hW hcnd hsz0 hL _
  have hval : ∀ (j : Nat) t v, Tryz.f7.params[j]? = some t → args[j]? = some v → Value.okWide Tryz.prog W .any base t v := hval0
  have hW' := hW
  obtain ⟨p, q, hA0, hV, rfl, hfz, hnd⟩ := hW
  have hA : DataW.TrodAll enc Tryz.prog W 0 (fun _ => true) true Tryz.f7.params.toList args.toList ds p := hA0
  rw [Tryz.params7] at hA hval
  obtain ⟨v0, vs0, d0, ds0, p0, q0, hargs, rfl, rfl, h0, r0⟩ := trodAll_cons hA
  obtain ⟨v1, vs1, d1, ds1, p1, q1, rfl, rfl, rfl, h1, r1⟩ := trodAll_cons r0
  obtain ⟨rfl, rfl, rfl⟩ := trodAll_nil r1
  obtain rfl : args = #[v0, v1] := by cases args; simp_all
  obtain ⟨rfl, rfl⟩ := trodVars_none hV
  rw [Tryz.params7] at hsz0
  obtain ⟨hz0, hs0⟩ := qmf hsz0
  obtain ⟨hz1, hs1⟩ := qmf hs0
  have lt0 : ∀ x ∈ p0, x.block < W.heap.size := by obtain ⟨m, hm⟩ := h0; exact DataW.trod_lt m _ _ _ hm
  obtain ⟨y0, rv0, nm0, wf0⟩ := qui (d := 9) (c := (.sl (.int .i64))) false (by kernel_rfl) (by kernel_rfl) (by kernel_rfl) (hval 0 51 v0 rfl rfl) h0 hz0
  have lt1 : ∀ x ∈ p1, x.block < W.heap.size := by obtain ⟨m, hm⟩ := h1; exact DataW.trod_lt m _ _ _ hm
  obtain ⟨y1, rv1, nm1, wf1⟩ := qui (d := 9) (c := (.pr (.int .i64) (.pr (.int .i64) (.int .i64)))) true (by kernel_rfl) (by kernel_rfl) (by kernel_rfl) (hval 1 64 v1 rfl rfl) h1 hz1
  clear hA0 hval0
  obtain ⟨k, hk⟩ := qjC y0 y1 wf0 wf1
  refine (qyO qBb (qKD k) (x := (y0, y1.1, y1.2.1, y1.2.2)) (y := true) hk rfl (args := [qjB false (.sl (.int .i64)) y0, qjB true (.pr (.int .i64) (.pr (.int .i64) (.int .i64))) y1]) rfl (qth rv0 (qth rv1 qAE)) (qoM nm0 (qoM nm1 rfl))).mono fun e W' ⟨he, bel⟩ => ?_
  subst he
  exact ⟨_, rfl, _, _, _, [], _, [], hW', trodAll_mk1 (shut_bool Tryz.underlying4 _), (trodAll_cons_mk (Below.trod laidOut (by kernel_rfl) (of_decide_eq_true (by kernel_rfl)) h0 bel lt0) (trodAll_cons_mk (Below.trod laidOut (by kernel_rfl) (of_decide_eq_true (by kernel_rfl)) h1 bel lt1) trodAll_mk0)), rfl, bel.frame _, fun h => by cases h⟩
theorem over : Rows.probeMeasuresRow.holds Tryz.pinned (OpenSpec.ofChange Rows.probeMeasuresSpec) :=
  OpenClaim.holds_of_wide 7 Tryz.f7 rfl rfl rfl rfl rfl rfl rfl ⟨rfl, rfl, rfl, rfl, rfl⟩ rfl rfl rfl rfl rfl (by kernel_rfl) Tryz.func7 (by kernel_rfl)
    (of_decide_eq_true (by kernel_rfl)) (by unfold Func.isWrapper; first | (rw [if_pos (by decide +kernel)]; kernel_rfl) | (rw [if_neg (by decide +kernel)]; exact ⟨rfl, rfl⟩))
    (fun os started H enc _ => lifted os started H enc)
theorem proved : Rows.ProbeMeasuresCardSaid :=
  Claim7.holds_tied_plain_at .later [] [.data, .pinned] true (true, "5ef3c3c07872d3be35a3a3883e7086d69564e098e6bb63972530fc0361de80e0") false over (fun _ h => by cases h) (by kernel_rfl) (fun _ h => by cases h) probeMeasures_row_tie rfl ⟨rfl, rfl⟩ (by kernel_rfl) rfl
    (fun f fn hf hfn => by
      obtain rfl : f = 7 := Option.some.inj ((show Tryz.prog.funcNamed "shunt/shuntlaw20.ProbeMeasures" = some 7 by kernel_rfl).symm.trans hf) |>.symm
      obtain rfl : fn = Tryz.f7 := (Option.some.inj (Tryz.func7.symm.trans hfn)).symm
      exact ⟨by kernel_rfl, fun j t ht => by
        rw [Tryz.params7] at ht
        have hm : t ∈ [51, 64] := by simpa using Array.mem_of_getElem? ht
        have hall : ([51, 64].all fun u => !Tryz.prog.wantsStandIn u) = true := by kernel_rfl
        exact (show Tryz.prog.wantsStandIn t = false by simpa using List.all_eq_true.1 hall t hm)⟩)
    (by kernel_rfl)
#print axioms proved
end Go.Proofs.YtlnailgfialgnaaGreatDoor.probeMeasures
namespace Go.Proofs.YtlnailgfialgnaaGreatDoor
theorem probeMeasures_holds : Rows.ProbeMeasuresCardSaid := probeMeasures.proved
end Go.Proofs.YtlnailgfialgnaaGreatDoor
