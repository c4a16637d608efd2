/- The law WaveCalls returns true for every input, and its arguments read as they did. -/
import Derived.Test.YtbhnafdmilfobaaGreatMWaveCalls1
import Derived.Test.YtbhnafdmilfobaaGreatRows
import Derived.WalkKit
import Derived.ProofKit
import Derived.OpenShut
import Derived.ShutString
import Derived.ChangeOld
import Derived.Below
import Derived.SizedLaws
import Derived.Carry

set_option linter.unusedVariables false
set_option linter.unusedSimpArgs false
set_option maxRecDepth 10000
namespace Go.Proofs.YtbhnafdmilfobaaGreat.Am
open Go

theorem quG (b1 r : List Int) (x1 : Int) (hx : 0 ≤ x1 ∧ x1 < U) (cb : Cn U b1) (hb : 0 < V U b1) (cr : Cn U r) (hr : V U r < V U b1) (hlr : r.length ≤ 800000) (hlb : b1.length ≤ 800000) :
    ∃ d, (0 ≤ d ∧ d < U) ∧ Rn (fun k => qbc k (tl (x1 :: r)) b1) d ∧ Rn (fun k => qG k (1 + r.length) (x1 :: r)) ((tl (x1 :: r)).length, x1 :: r) ∧
      (d = 0 → V U (tl (x1 :: r)) < V U b1) ∧ (0 < d → ∃ l s t m, Rn (fun k => qz k d) (false, l) ∧ Rn (fun k => qB k false b1 false l) (s, t) ∧ Rn (fun k => qaq k (tl (x1 :: r)) t) m ∧
        Cn U m ∧ V U m < V U b1 ∧ V U m + V U b1 * d = x1 + U * V U r ∧ m.length ≤ b1.length) := by
  have hr0 := qr (B := U) (by decide) cr.1
  have dn : Dg U (x1 :: r) := Dg.cons hx cr.1
  have cn : Cn U (tl (x1 :: r)) := Cn.of dn
  have vn : V U (tl (x1 :: r)) = x1 + U * V U r := by rw [qfS]; rfl
  have ln := qbo (x1 :: r)
  have hlen : (x1 :: r).length = r.length + 1 := rfl
  have hlt : V U (tl (x1 :: r)) < U * V U b1 := by
    have : U * (V U r + 1) ≤ U * V U b1 := Int.mul_le_mul_of_nonneg_left (by omega) (by decide)
    rw [vn]; rw [Int.mul_add, Int.mul_one] at this; omega
  have hn0 := qr (B := U) (by decide) cn.1
  have hd := qwl (tl (x1 :: r)) b1 cn cb hb (by omega) (by omega) hlt
  have q0 : 0 ≤ V U (tl (x1 :: r)) / V U b1 := Int.ediv_nonneg hn0 (by omega)
  have q1 : V U (tl (x1 :: r)) / V U b1 < U := Int.ediv_lt_of_lt_mul hb hlt
  have qm := Int.emod_add_mul_ediv (V U (tl (x1 :: r))) (V U b1)
  have qa := Int.emod_nonneg (V U (tl (x1 :: r))) (show V U b1 ≠ 0 by omega)
  have qb := Int.emod_lt_of_pos (V U (tl (x1 :: r))) hb
  refine ⟨_, ⟨q0, q1⟩, hd, ?_, ?_, ?_⟩
  · have := qwg (1 + r.length) (x1 :: r) (by omega) (by omega)
    rwa [List.take_of_length_le (by omega)] at this
  · intro h; rw [h] at qm; omega
  · intro h
    generalize V U (tl (x1 :: r)) / V U b1 = d at *
    have q2 : d < 65536 := q1
    obtain ⟨l, s1, s2, s3⟩ := qep d (by omega)
    have hq0 : decide (d < 0) = false := by simp; omega
    rw [hq0] at s1 s2
    obtain ⟨s, t, t1, t2, t3⟩ := qda false false b1 l (qfP cb rfl) s2 (by omega) (by omega)
    have hvt : V U t = V U b1 * d := by
      have e := t2.abs (by decide)
      have : 0 ≤ V U b1 * d := Int.mul_nonneg (by omega) (by omega)
      omega
    obtain ⟨m, m1, m2, m3, m4⟩ := qls (tl (x1 :: r)) t (by omega) cn.1 t2.c (by omega)
    refine ⟨l, s, t, m, s1, t1, m1, m2, by omega, by omega, ?_⟩
    refine Nat.le_of_not_lt fun hlt => ?_
    have := Cn.len_lt (B := U) (by decide) cb m2 hlt
    omega
def Dst (q : Nat) (i : Int) (a0 : Bool) (a1 : List Int) (b0 : Bool) (b1 qs r : List Int) (x : ((Nat × Nat × Int × Bool × List Int × Bool × List Int × Bool × Nat × Bool × Nat × List Int × List Int × List Int × List Int) ⊕ (Nat × List Int × Int × Bool × List Int × Bool × List Int × Bool × Nat × Bool × Nat × List Int × List Int × List Int))) : Prop :=
  (∃ mem m1 m2, x = .inl (q, r.length, i, a0, a1, b0, b1, false, 0, false, 0, qs, mem, m1, m2) ∧ r.length ≤ mem.length ∧ mem.take r.length = r) ∨ (∃ m1 m2, x = .inr (q, r, i, a0, a1, b0, b1, false, 0, false, 0, qs, m1, m2))
def qHB (q : Nat) (a0 : Bool) (a1 : List Int) (b0 : Bool) (b1 qs r : List Int) (x : ((Nat × Nat × Bool × List Int × Bool × List Int × Bool × Nat × Bool × Nat × List Int × List Int × List Int × List Int) ⊕ (Nat × List Int × Bool × List Int × Bool × List Int × Bool × Nat × Bool × Nat × List Int × List Int × List Int))) : Prop :=
  (∃ mem m1 m2, x = .inl (q, r.length, a0, a1, b0, b1, false, 0, false, 0, qs, mem, m1, m2) ∧ r.length ≤ mem.length ∧ mem.take r.length = r) ∨ (∃ m1 m2, x = .inr (q, r, a0, a1, b0, b1, false, 0, false, 0, qs, m1, m2))
theorem qso {b vq vr x d va vm : Int} (h : b * vq + vr = va) (e : vm + b * d = x + U * vr) : b * (d + U * vq) + vm = x + U * va := by
  subst h; grind
theorem qwm (a0 b0 : Bool) (a1 b1 : List Int) (da : Dg U a1) (cb : Cn U b1) (hb : 0 < V U b1) (hla : a1.length ≤ 800000) (hlb : b1.length ≤ 800000) :
    ∀ (e : Nat) (qs r : List Int) x, e ≤ a1.length → qs.length = a1.length → Dg U qs → Cn U r → V U r < V U b1 → V U b1 * V U (qs.drop e) + V U r = V U (a1.drop e) → Dst a1.length ((e : Int) - 1) a0 a1 b0 b1 qs r x →
    ∃ qs' r' y, qHB a1.length a0 a1 b0 b1 qs' r' y ∧ (qs'.length = a1.length ∧ Dg U qs' ∧ Cn U r' ∧ V U r' < V U b1 ∧ V U b1 * V U qs' + V U r' = V U a1) ∧ ∃ K, ∀ k n, K ≤ k → e < n → qN k n x = some y := by
  intro e
  induction e with
  | zero =>
    intro qs r x he hl dq cr hr hv hx
    rcases hx with ⟨mem, m1, m2, rfl, h1, h2⟩ | ⟨m1, m2, rfl⟩
    · refine ⟨qs, r, _, .inl ⟨mem, m1, m2, rfl, h1, h2⟩, ⟨hl, dq, cr, hr, by simpa using hv⟩, 0, fun k n _ hn => ?_⟩
      obtain ⟨n, rfl⟩ : ∃ m, n = m + 1 := ⟨n - 1, by omega⟩
      show qH k (qN k n) _ = _
      unfold qH
      simp (config := { implicitDefEqProofs := false, maxSteps := 2000000 }) (disch := omega) only [ps, ↓reduceIte, reduceCtorEq, Int.reduceLT, Int.reduceLE, Int.reduceEq, Nat.reduceLT, Nat.reduceLeDiff, Nat.reduceEqDiff, Int.reduceNeg, qc, qc, Int.zero_sub, Int.natCast_zero]
    · refine ⟨qs, r, _, .inr ⟨m1, m2, rfl⟩, ⟨hl, dq, cr, hr, by simpa using hv⟩, 0, fun k n _ hn => ?_⟩
      obtain ⟨n, rfl⟩ : ∃ m, n = m + 1 := ⟨n - 1, by omega⟩
      show qH k (qN k n) _ = _
      unfold qH
      simp (config := { implicitDefEqProofs := false, maxSteps := 2000000 }) (disch := omega) only [ps, ↓reduceIte, reduceCtorEq, Int.reduceLT, Int.reduceLE, Int.reduceEq, Nat.reduceLT, Nat.reduceLeDiff, Nat.reduceEqDiff, Int.reduceNeg, qc, qc, Int.zero_sub, Int.natCast_zero]
  | succ j ih =>
    intro qs r x he hl dq cr hr hv hx
    have hlr : r.length ≤ b1.length := by
      refine Nat.le_of_not_lt fun hlt => ?_
      have := Cn.len_lt (B := U) (by decide) cb cr hlt
      omega
    obtain ⟨x1, hx1⟩ := qE (show j < a1.length by omega)
    obtain ⟨x2, hx2⟩ := qE (show j < qs.length by omega)
    obtain ⟨d, hd, ⟨K1, h1⟩, ⟨K2, h2⟩, h3, h4⟩ := quG b1 r x1 (da.get hx1) cb hb cr hr (by omega) hlb
    have hjj : ((j + 1 : Nat) : Int) - 1 = (j : Int) := by omega
    have hdrop : (qs.set j d).drop j = d :: qs.drop (j + 1) := by
      rw [List.drop_eq_getElem_cons (by simp; omega)]
      simp [List.drop_set_of_lt]
    have htl := qfs (x1 :: r)
    have ltl := qbo (x1 :: r)
    have hlen : (x1 :: r).length = r.length + 1 := rfl
    have hVa := qbp (B := U) hx1
    rw [hjj] at hx
    by_cases hd0 : d = 0
    · have hlt := h3 hd0
      subst hd0
      have cn : Cn U (tl (x1 :: r)) := Cn.of (Dg.cons (da.get hx1) cr.1)
      have vn : V U (tl (x1 :: r)) = x1 + U * V U r := by rw [qfS]; rfl
      have key := ih (qs.set j 0) (tl (x1 :: r))
      have hvv : V U b1 * V U ((qs.set j 0).drop j) + V U (tl (x1 :: r)) = V U (a1.drop j) := by
        rw [hdrop, hVa]; simp only [V]; exact qso hv (by rw [vn]; omega)
      rcases hx with ⟨mem, m1, m2, rfl, g1, g2⟩ | ⟨m1, m2, rfl⟩
      · obtain ⟨qs', r', y, i1, i2, K, i3⟩ := key _ (by omega) (by simpa using hl) (dq.set j hd) cn hlt hvv (.inl ⟨x1 :: r, m1, m2, rfl, ltl, htl⟩)
        refine ⟨qs', r', y, i1, i2, max K (max K1 K2), fun k n hk hn => ?_⟩
        obtain ⟨n, rfl⟩ : ∃ m, n = m + 1 := ⟨n - 1, by omega⟩
        rw [← i3 k n (by omega) (by omega)]
        have c1 := h1 k (by omega)
        have c2 := h2 k (by omega)
        show qH k (qN k n) _ = _
        unfold qH
        simp only [qc]
        simp (config := { implicitDefEqProofs := false, maxSteps := 2000000 }) (disch := omega) only [ps, ↓reduceIte, reduceCtorEq, Int.reduceLT, Int.reduceLE, Int.reduceEq, Nat.reduceLT, Nat.reduceLeDiff, Nat.reduceEqDiff, Int.reduceNeg, qc, g2, hx1, hx2, c1, c2, htl, List.take_succ_cons, List.cons_append]
      · obtain ⟨qs', r', y, i1, i2, K, i3⟩ := key _ (by omega) (by simpa using hl) (dq.set j hd) cn hlt hvv (.inl ⟨x1 :: r, m1, m2, rfl, ltl, htl⟩)
        refine ⟨qs', r', y, i1, i2, max K (max K1 K2), fun k n hk hn => ?_⟩
        obtain ⟨n, rfl⟩ : ∃ m, n = m + 1 := ⟨n - 1, by omega⟩
        rw [← i3 k n (by omega) (by omega)]
        have c1 := h1 k (by omega)
        have c2 := h2 k (by omega)
        show qH k (qN k n) _ = _
        unfold qH
        simp only [qc]
        simp (config := { implicitDefEqProofs := false, maxSteps := 2000000 }) (disch := omega) only [ps, ↓reduceIte, reduceCtorEq, Int.reduceLT, Int.reduceLE, Int.reduceEq, Nat.reduceLT, Nat.reduceLeDiff, Nat.reduceEqDiff, Int.reduceNeg, qc, hx1, hx2, c1, c2, htl, List.take_succ_cons, List.cons_append]
    · obtain ⟨l, s, t, m, ⟨K3, s1⟩, ⟨K4, s2⟩, ⟨K5, s3⟩, s4, s5, s6, s7⟩ := h4 (by omega)
      have key := ih (qs.set j d) m
      have hvv : V U b1 * V U ((qs.set j d).drop j) + V U m = V U (a1.drop j) := by
        rw [hdrop, hVa]; simp only [V]; exact qso hv s6
      rcases hx with ⟨mem, m1, m2, rfl, g1, g2⟩ | ⟨m1, m2, rfl⟩
      · obtain ⟨qs', r', y, i1, i2, K, i3⟩ := key _ (by omega) (by simpa using hl) (dq.set j hd) s4 s5 hvv (.inr ⟨m1, m2, rfl⟩)
        refine ⟨qs', r', y, i1, i2, max K (max (max K1 K2) (max K3 (max K4 K5))), fun k n hk hn => ?_⟩
        obtain ⟨n, rfl⟩ : ∃ m, n = m + 1 := ⟨n - 1, by omega⟩
        rw [← i3 k n (by omega) (by omega)]
        have c1 := h1 k (by omega)
        have c2 := h2 k (by omega)
        have c3 := s1 k (by omega)
        have c4 := s2 k (by omega)
        have c5 := s3 k (by omega)
        show qH k (qN k n) _ = _
        unfold qH
        simp only [qc]
        simp (config := { implicitDefEqProofs := false, maxSteps := 2000000 }) (disch := omega) only [ps, ↓reduceIte, reduceCtorEq, Int.reduceLT, Int.reduceLE, Int.reduceEq, Nat.reduceLT, Nat.reduceLeDiff, Nat.reduceEqDiff, Int.reduceNeg, qc, g2, hx1, hx2, c1, c2, c3, c4, c5, htl, List.take_succ_cons, List.cons_append]
      · obtain ⟨qs', r', y, i1, i2, K, i3⟩ := key _ (by omega) (by simpa using hl) (dq.set j hd) s4 s5 hvv (.inr ⟨m1, m2, rfl⟩)
        refine ⟨qs', r', y, i1, i2, max K (max (max K1 K2) (max K3 (max K4 K5))), fun k n hk hn => ?_⟩
        obtain ⟨n, rfl⟩ : ∃ m, n = m + 1 := ⟨n - 1, by omega⟩
        rw [← i3 k n (by omega) (by omega)]
        have c1 := h1 k (by omega)
        have c2 := h2 k (by omega)
        have c3 := s1 k (by omega)
        have c4 := s2 k (by omega)
        have c5 := s3 k (by omega)
        show qH k (qN k n) _ = _
        unfold qH
        simp only [qc]
        simp (config := { implicitDefEqProofs := false, maxSteps := 2000000 }) (disch := omega) only [ps, ↓reduceIte, reduceCtorEq, Int.reduceLT, Int.reduceLE, Int.reduceEq, Nat.reduceLT, Nat.reduceLeDiff, Nat.reduceEqDiff, Int.reduceNeg, qc, hx1, hx2, c1, c2, c3, c4, c5, htl, List.take_succ_cons, List.cons_append]
end Go.Proofs.YtbhnafdmilfobaaGreat.Am

/- qt reckoning: numbers lent and looked at again; the reference's calls of two numbers. -/
set_option linter.unusedVariables false
set_option linter.unusedSimpArgs false
set_option maxRecDepth 10000
namespace Go.Proofs.YtbhnafdmilfobaaGreat.Am
open Go

abbrev mk (a1 : List Int) : List Int := a1 ++ [11259375]
section
variable {a0 b0 : Bool} {a1 b1 : List Int} (la : a1.length ≤ 9223372036854775807) (lb : b1.length ≤ 9223372036854775807) (da : Dg W a1) (db : Dg W b1)
include la lb da db
end
end Go.Proofs.YtbhnafdmilfobaaGreat.Am

/- qt reckoning: the reference's division and common divisor, whole. -/
set_option linter.unusedVariables false
set_option linter.unusedSimpArgs false
set_option maxRecDepth 10000
namespace Go.Proofs.YtbhnafdmilfobaaGreat.Am
open Go

set_option maxHeartbeats 1000000 in
theorem qeq (a0 b0 : Bool) (a1 b1 : List Int) {x y : Int} (nx : Nm U a0 a1 x) (ny : Nm U b0 b1 y) (hla : a1.length ≤ 800000) (hlb : b1.length ≤ 800000) (hb0 : b1 ≠ []) :
    ∃ s q t r, Rn (fun k => qX k a0 a1 b0 b1) (s, q, t, r) ∧ Nm U s q (x.tdiv y) ∧ Nm U t r (x.tmod y) ∧ q.length ≤ a1.length ∧ r.length ≤ b1.length := by
  have hb : 0 < V U b1 := by
    have p := qr (B := U) (by decide) ny.c.1
    have := mt (ny.c.nil_iff (B := U) (by decide)).2 hb0
    omega
  have pa := qr (B := U) (by decide) nx.c.1
  obtain ⟨qs, r, z, hz, ⟨lq, dq, cr, hr, hv⟩, K, hl⟩ := qwm a0 b0 a1 b1 nx.c.1 ny.c hb hla hlb a1.length (List.replicate a1.length 0) [] _ (Nat.le_refl _) (by simp) (Dg.rep _ (by decide)) Cn.nil (by simpa [V] using hb) (by
    rw [List.drop_of_length_le (by simp), List.drop_of_length_le (by simp)]; simp [V]) (.inl ⟨[], [], [], rfl, by simp, rfl⟩)
  have hr0 := qr (B := U) (by decide) cr.1
  have hu := quF hv hr0 hr
  have cq : Cn U (tl qs) := Cn.of dq
  have e1 := qwj a0 b0 (Y := V U b1) pa
  have e2 := qwk a0 b0 (Y := V U b1) pa
  rw [nx.z, ny.z, ← hu.1] at e1
  rw [nx.z, ny.z, ← hu.2] at e2
  have n1 := qnz (a0 := !(a0 == b0)) cq (qfS qs)
  have n2 := qnz (a0 := a0) cr rfl
  have ltq := qbo qs
  refine ⟨_, _, _, _, ?_, n1.cast e1.symm, n2.cast e2.symm, by omega, ?_⟩
  · refine Rn.up (f := fun k => qX k a0 a1 b0 b1) (Rn.eq (K + a1.length + 4) fun k hk => ?_)
    show qem k a0 a1 b0 b1 = _
    unfold qem
    have hdec : ∀ l : List Int, decide ((0 : Int) < (l.length : Int)) = decide (0 < l.length) := fun l => by congr 1; simp
    have h1 : qN k k (Sum.inl (a1.length, 0, (a1.length : Int) - 1, a0, a1, b0, b1, false, 0, false, 0, List.replicate a1.length 0, [], [], [])) = some z := hl k k (by omega) (by omega)
    have h2 := qlr qs (by omega) k (by omega)
    rw [lq] at h2
    have h3 := qfs qs
    rcases hz with ⟨mem, m1, m2, rfl, g1, g2⟩ | ⟨m1, m2, rfl⟩
    · simp (config := { implicitDefEqProofs := false, maxSteps := 2000000 }) (disch := omega) only [ps, ↓reduceIte, reduceCtorEq, Int.reduceLT, Int.reduceLE, Int.reduceEq, Nat.reduceLT, Nat.reduceLeDiff, Nat.reduceEqDiff, Int.reduceNeg, qc, h1]
      simp (config := { implicitDefEqProofs := false, maxSteps := 2000000 }) (disch := omega) only [ps, ↓reduceIte, reduceCtorEq, Int.reduceLT, Int.reduceLE, Int.reduceEq, Nat.reduceLT, Nat.reduceLeDiff, Nat.reduceEqDiff, Int.reduceNeg, qc, h2, g1]
      cases a0 <;> cases b0 <;> simp (config := { implicitDefEqProofs := false, maxSteps := 2000000 }) (disch := omega) only [ps, ↓reduceIte, reduceCtorEq, Int.reduceLT, Int.reduceLE, Int.reduceEq, Nat.reduceLT, Nat.reduceLeDiff, Nat.reduceEqDiff, Int.reduceNeg, qc, h3, g2, hdec, if_true, if_false]
    · simp (config := { implicitDefEqProofs := false, maxSteps := 2000000 }) (disch := omega) only [ps, ↓reduceIte, reduceCtorEq, Int.reduceLT, Int.reduceLE, Int.reduceEq, Nat.reduceLT, Nat.reduceLeDiff, Nat.reduceEqDiff, Int.reduceNeg, qc, h1]
      simp (config := { implicitDefEqProofs := false, maxSteps := 2000000 }) (disch := omega) only [ps, ↓reduceIte, reduceCtorEq, Int.reduceLT, Int.reduceLE, Int.reduceEq, Nat.reduceLT, Nat.reduceLeDiff, Nat.reduceEqDiff, Int.reduceNeg, qc, h2]
      cases a0 <;> cases b0 <;> simp (config := { implicitDefEqProofs := false, maxSteps := 2000000 }) (disch := omega) only [ps, ↓reduceIte, reduceCtorEq, Int.reduceLT, Int.reduceLE, Int.reduceEq, Nat.reduceLT, Nat.reduceLeDiff, Nat.reduceEqDiff, Int.reduceNeg, qc, h3, hdec, if_true, if_false]
  · refine Nat.le_of_not_lt fun hlt => ?_
    have := Cn.len_lt (B := U) (by decide) ny.c cr hlt
    omega
theorem qrX (x0 : Bool) (x1 : Nat) (m : List Int) (M : Nat) (hM : M ≤ 800000) : ∀ (N : Nat) (a b : List Int), V U b ≤ N → Cn U a → Cn U b → a.length ≤ M → b.length ≤ M →
    ∃ l b1, (∃ K, ∀ k n, K ≤ k → N < n → qaP k n false a false b x0 x1 m = some (false, l, false, b1, x0, x1, m)) ∧ Cn U l ∧ V U l = Int.gcd (V U a) (V U b) ∧ l.length ≤ M := by
  intro N
  induction N using Nat.strongRecOn with
  | ind N ih =>
    intro a b hN ca cb ha hb
    have pa := qr (B := U) (by decide) ca.1
    by_cases h0 : b = []
    · subst h0
      refine ⟨a, [], ⟨0, fun k n _ hn => ?_⟩, ca, by simp [V]; omega, ha⟩
      obtain ⟨n, rfl⟩ : ∃ m, n = m + 1 := ⟨n - 1, by omega⟩
      show qb7 k (qaP k n) _ _ _ _ _ _ _ = _
      unfold qb7
      simp (config := { implicitDefEqProofs := false, maxSteps := 2000000 }) (disch := omega) only [ps, ↓reduceIte, reduceCtorEq, Int.reduceLT, Int.reduceLE, Int.reduceEq, Nat.reduceLT, Nat.reduceLeDiff, Nat.reduceEqDiff, Int.reduceNeg, qc]
    · have pb : 0 < V U b := by
        have p := qr (B := U) (by decide) cb.1
        have := mt (cb.nil_iff (B := U) (by decide)).2 h0
        omega
      obtain ⟨s, q, t, r, ⟨K1, h1⟩, h2, h3, h4, h5⟩ := qeq false false a b (qfP ca rfl) (qfP cb rfl) (by omega) (by omega) h0
      have hr0 := Int.emod_nonneg (V U a) (show V U b ≠ 0 by omega)
      have hr1 := Int.emod_lt_of_pos (V U a) pb
      rw [qc7 pa] at h3
      obtain ⟨R, hR⟩ := Int.eq_ofNat_of_zero_le hr0
      have ht : t = false := by rw [h3.neg (by decide)]; simp; omega
      subst ht
      have hvr : V U r = R := by rw [h3.abs (by decide), hR]; rfl
      obtain ⟨l, b1, ⟨K2, i1⟩, i2, i3, i4⟩ := ih R (by omega) b r (by omega) cb h3.c hb (by omega)
      refine ⟨l, b1, ⟨max K1 K2, fun k n hk hn => ?_⟩, i2, ?_, i4⟩
      · obtain ⟨n, rfl⟩ : ∃ m, n = m + 1 := ⟨n - 1, by omega⟩
        rw [← i1 k n (by omega) (by omega)]
        have c1 := h1 k (by omega)
        have lb : 0 < b.length := by
          cases b with
          | nil => exact absurd rfl h0
          | cons _ _ => simp
        show qb7 k (qaP k n) _ _ _ _ _ _ _ = _
        unfold qb7
        simp (config := { implicitDefEqProofs := false, maxSteps := 2000000 }) (disch := omega) only [ps, ↓reduceIte, reduceCtorEq, Int.reduceLT, Int.reduceLE, Int.reduceEq, Nat.reduceLT, Nat.reduceLeDiff, Nat.reduceEqDiff, Int.reduceNeg, qc, c1]
      · rw [i3, hvr, ← hR]
        obtain ⟨A, hA⟩ := Int.eq_ofNat_of_zero_le pa
        obtain ⟨B, hB⟩ := Int.eq_ofNat_of_zero_le (Int.le_of_lt pb)
        rw [hA, hB]
        show (((Int.gcd (B : Int) ((A % B : Nat) : Int)) : Nat) : Int) = _
        rw [Int.gcd_natCast_natCast, Int.gcd_natCast_natCast, Nat.gcd_comm, ← Nat.gcd_rec, Nat.gcd_comm]
theorem qoy (a0 b0 : Bool) (a1 b1 : List Int) {x y : Int} (nx : Nm U a0 a1 x) (ny : Nm U b0 b1 y) (hx : a1.length ≤ 800000) (hy : b1.length ≤ 800000) :
    ∃ l, Rn (fun k => qbx k a0 a1 b0 b1) (false, l) ∧ Nm U false l (Int.gcd x y) ∧ l.length ≤ max a1.length b1.length := by
  obtain ⟨N, hN⟩ := Int.eq_ofNat_of_zero_le (qr (B := U) (by decide) ny.c.1)
  obtain ⟨l, b', ⟨K, h1⟩, h2, h3, h4⟩ := qrX false 0 [] (max a1.length b1.length) (by omega) N a1 b1 (by omega) nx.c ny.c (by omega) (by omega)
  have e : (Int.gcd (V U a1) (V U b1) : Int) = Int.gcd x y := by
    have e1 := nx.z
    have e2 := ny.z
    rw [← e1, ← e2]
    cases a0 <;> cases b0 <;> simp
  refine ⟨l, Rn.up (f := fun k => qbx k a0 a1 b0 b1) ?_, qfP h2 (by rw [h3, e]), h4⟩
  have q1 : Rn (fun k => qaj k a0 a1) (false, a1) := Rn.up (f := fun k => qaj k a0 a1) (Rn.pure _)
  have q2 : Rn (fun k => qaj k b0 b1) (false, b1) := Rn.up (f := fun k => qaj k b0 b1) (Rn.pure _)
  refine Rn.bind (f := fun k => qaj k a0 a1) q1 (Rn.bind q2 ?_)
  exact Rn.bind (x := (false, l, false, b', false, 0, [])) (Rn.eq (K + N + 1) fun k hk => h1 k k (by omega) (by omega)) (Rn.pure _)
section
variable {a0 b0 : Bool} {a1 b1 : List Int} (la : a1.length ≤ 9223372036854775807) (lb : b1.length ≤ 9223372036854775807) (da : Dg W a1) (db : Dg W b1)
include la lb da db
end
end Go.Proofs.YtbhnafdmilfobaaGreat.Am

/- qt reckoning: right fractions, and the layer's calls of two of them. -/
set_option linter.unusedVariables false
set_option linter.unusedSectionVars false
set_option linter.unusedSimpArgs false
set_option maxRecDepth 10000
namespace Go.Proofs.YtbhnafdmilfobaaGreat.Am
open Go

def qfq (n0 : Bool) (n1 : List Int) (d0 : Bool) (d1 : List Int) : Int :=
  if Ri n0 n1 ∧ Ri d0 d1 then (if d0 = false ∧ d1 ≠ [] ∧ Int.gcd (Zv W n0 n1) (Zv W d0 d1) = 1 then 0 else 20) else 10
theorem qBV {d1 : List Int} {d0 : Bool} (h0 : d0 = false) (hne : d1 ≠ []) (cd : Cn W d1) : 0 < Zv W d0 d1 := by
  subst h0
  have p := qr (B := W) (by decide) cd.1
  have q := mt (cd.nil_iff (B := W) (by decide)).2 hne
  simp [Zv]; omega
theorem qtM {x y : Int} (hy : 0 < y) (hg : Int.gcd x y = 1) : (Rat.divInt x y).num = x ∧ ((Rat.divInt x y).den : Int) = y := by
  refine ⟨?_, ?_⟩
  · rw [qrt x (by omega), if_neg (by omega), hg]; simp
  · rw [qru x (by omega), if_neg (by omega), hg]; simp
theorem qwn {n0 d0 : Bool} {n1 d1 : List Int} (dn : Dg W n1) (dd : Dg W d1) (h : qfq n0 n1 d0 d1 = 0) : ∃ q, Fr n0 n1 d0 d1 q ∧ n1.length ≤ 72 ∧ d1.length ≤ 72 := by
  unfold qfq at h
  split at h
  · rename_i hr
    split at h
    · rename_i hc
      obtain ⟨h1, h2, h3⟩ := hc
      have a := hr.1.nm dn
      have b := hr.2.nm dd
      obtain ⟨e1, e2⟩ := qtM (qBV h1 h2 b.c) h3
      exact ⟨Rat.divInt (Zv W n0 n1) (Zv W d0 d1), ⟨a.cast e1.symm, b.cast e2.symm⟩, hr.1.1, hr.2.1⟩
    · cases h
  · cases h
theorem qwo {n0 d0 : Bool} {n1 d1 : List Int} {q : Rat} (h : Fr n0 n1 d0 d1 q) (l1 : n1.length ≤ 72) (l3 : d1.length ≤ 72) : qfq n0 n1 d0 d1 = 0 := by
  unfold qfq
  rw [if_pos ⟨h.1.ri l1, h.2.ri l3⟩, if_pos]
  refine ⟨h.d0, h.ne, ?_⟩
  rw [show Zv W n0 n1 = q.num from h.1.z, show Zv W d0 d1 = q.den from h.2.z]
  have := q.reduced
  show Nat.gcd q.num.natAbs (q.den : Int).natAbs = 1
  rw [Int.natAbs_natCast]
  exact this
theorem qyj {l : List Int} {g : Nat} (h : Nm W false l g) : l = [1] ↔ g = 1 := by
  have hc : Cn W [1] := ⟨Dg.cons (by decide) Dg.nil, rfl⟩
  have hv := h.abs (by decide)
  constructor
  · rintro rfl
    simp [V] at hv
    omega
  · rintro rfl
    refine Cn.ext (B := W) (by decide) h.c hc ?_
    rw [hv]; simp [V]
section
variable {n0 d0 : Bool} {n1 d1 : List Int} (la : n1.length ≤ 9223372036854775807) (lb : d1.length ≤ 9223372036854775807) (da : Dg W n1) (db : Dg W d1)
include la lb da db
theorem qrY : Rn (fun k => qev k n0 n1 d0 d1) (qfq n0 n1 d0 d1) := by
  refine Rn.up (f := fun k => qev k n0 n1 d0 d1) ?_
  show Rn (fun k => qho k n0 n1 d0 d1) _
  unfold qho
  refine Rn.bind (qhr n0 n1 la da) ?_
  by_cases hn : Ri n0 n1
  case neg =>
    have e : qfq n0 n1 d0 d1 = 10 := if_neg (fun c => hn c.1)
    rw [e, if_neg hn]
    (first | (refine Rn.t ?hc ?_; case hc => simp (config := { implicitDefEqProofs := false, maxSteps := 2000000 }) (disch := omega) only [ps, ↓reduceIte, reduceCtorEq, Int.reduceLT, Int.reduceLE, Int.reduceEq, Nat.reduceLT, Nat.reduceLeDiff, Nat.reduceEqDiff, Int.reduceNeg, qc]) | (refine Rn.f ?hc ?_; case hc => simp (config := { implicitDefEqProofs := false, maxSteps := 2000000 }) (disch := omega) only [ps, ↓reduceIte, reduceCtorEq, Int.reduceLT, Int.reduceLE, Int.reduceEq, Nat.reduceLT, Nat.reduceLeDiff, Nat.reduceEqDiff, Int.reduceNeg, qc]))
    exact Rn.pure _
  rw [if_pos hn]
  (first | (refine Rn.t ?hc ?_; case hc => simp (config := { implicitDefEqProofs := false, maxSteps := 2000000 }) (disch := omega) only [ps, ↓reduceIte, reduceCtorEq, Int.reduceLT, Int.reduceLE, Int.reduceEq, Nat.reduceLT, Nat.reduceLeDiff, Nat.reduceEqDiff, Int.reduceNeg, qc]) | (refine Rn.f ?hc ?_; case hc => simp (config := { implicitDefEqProofs := false, maxSteps := 2000000 }) (disch := omega) only [ps, ↓reduceIte, reduceCtorEq, Int.reduceLT, Int.reduceLE, Int.reduceEq, Nat.reduceLT, Nat.reduceLeDiff, Nat.reduceEqDiff, Int.reduceNeg, qc]))
  refine Rn.bind (qhr d0 d1 lb db) ?_
  by_cases hd : Ri d0 d1
  case neg =>
    have e : qfq n0 n1 d0 d1 = 10 := if_neg (fun c => hd c.2)
    rw [e, if_neg hd]
    (first | (refine Rn.t ?hc ?_; case hc => simp (config := { implicitDefEqProofs := false, maxSteps := 2000000 }) (disch := omega) only [ps, ↓reduceIte, reduceCtorEq, Int.reduceLT, Int.reduceLE, Int.reduceEq, Nat.reduceLT, Nat.reduceLeDiff, Nat.reduceEqDiff, Int.reduceNeg, qc]) | (refine Rn.f ?hc ?_; case hc => simp (config := { implicitDefEqProofs := false, maxSteps := 2000000 }) (disch := omega) only [ps, ↓reduceIte, reduceCtorEq, Int.reduceLT, Int.reduceLE, Int.reduceEq, Nat.reduceLT, Nat.reduceLeDiff, Nat.reduceEqDiff, Int.reduceNeg, qc]))
    exact Rn.pure _
  rw [if_pos hd]
  (first | (refine Rn.t ?hc ?_; case hc => simp (config := { implicitDefEqProofs := false, maxSteps := 2000000 }) (disch := omega) only [ps, ↓reduceIte, reduceCtorEq, Int.reduceLT, Int.reduceLE, Int.reduceEq, Nat.reduceLT, Nat.reduceLeDiff, Nat.reduceEqDiff, Int.reduceNeg, qc]) | (refine Rn.f ?hc ?_; case hc => simp (config := { implicitDefEqProofs := false, maxSteps := 2000000 }) (disch := omega) only [ps, ↓reduceIte, reduceCtorEq, Int.reduceLT, Int.reduceLE, Int.reduceEq, Nat.reduceLT, Nat.reduceLeDiff, Nat.reduceEqDiff, Int.reduceNeg, qc]))
  have e0 : qfq n0 n1 d0 d1 = if d0 = false ∧ d1 ≠ [] ∧ Int.gcd (Zv W n0 n1) (Zv W d0 d1) = 1 then 0 else 20 := if_pos ⟨hn, hd⟩
  cases d0
  case true =>
    rw [e0.trans (if_neg (fun c => by cases c.1))]
    (first | (refine Rn.t ?hc ?_; case hc => simp (config := { implicitDefEqProofs := false, maxSteps := 2000000 }) (disch := omega) only [ps, ↓reduceIte, reduceCtorEq, Int.reduceLT, Int.reduceLE, Int.reduceEq, Nat.reduceLT, Nat.reduceLeDiff, Nat.reduceEqDiff, Int.reduceNeg, qc]) | (refine Rn.f ?hc ?_; case hc => simp (config := { implicitDefEqProofs := false, maxSteps := 2000000 }) (disch := omega) only [ps, ↓reduceIte, reduceCtorEq, Int.reduceLT, Int.reduceLE, Int.reduceEq, Nat.reduceLT, Nat.reduceLeDiff, Nat.reduceEqDiff, Int.reduceNeg, qc]))
    exact Rn.pure _
  (first | (refine Rn.t ?hc ?_; case hc => simp (config := { implicitDefEqProofs := false, maxSteps := 2000000 }) (disch := omega) only [ps, ↓reduceIte, reduceCtorEq, Int.reduceLT, Int.reduceLE, Int.reduceEq, Nat.reduceLT, Nat.reduceLeDiff, Nat.reduceEqDiff, Int.reduceNeg, qc]) | (refine Rn.f ?hc ?_; case hc => simp (config := { implicitDefEqProofs := false, maxSteps := 2000000 }) (disch := omega) only [ps, ↓reduceIte, reduceCtorEq, Int.reduceLT, Int.reduceLE, Int.reduceEq, Nat.reduceLT, Nat.reduceLeDiff, Nat.reduceEqDiff, Int.reduceNeg, qc]))
  by_cases h0 : d1 = []
  · rw [e0.trans (if_neg (fun c => c.2.1 h0))]
    subst h0
    (first | (refine Rn.t ?hc ?_; case hc => simp (config := { implicitDefEqProofs := false, maxSteps := 2000000 }) (disch := omega) only [ps, ↓reduceIte, reduceCtorEq, Int.reduceLT, Int.reduceLE, Int.reduceEq, Nat.reduceLT, Nat.reduceLeDiff, Nat.reduceEqDiff, Int.reduceNeg, qc]) | (refine Rn.f ?hc ?_; case hc => simp (config := { implicitDefEqProofs := false, maxSteps := 2000000 }) (disch := omega) only [ps, ↓reduceIte, reduceCtorEq, Int.reduceLT, Int.reduceLE, Int.reduceEq, Nat.reduceLT, Nat.reduceLeDiff, Nat.reduceEqDiff, Int.reduceNeg, qc]))
    exact Rn.pure _
  · have l0 : 0 < d1.length := by
      cases d1 with
      | nil => exact absurd rfl h0
      | cons _ _ => simp
    (first | (refine Rn.t ?hc ?_; case hc => simp (config := { implicitDefEqProofs := false, maxSteps := 2000000 }) (disch := omega) only [ps, ↓reduceIte, reduceCtorEq, Int.reduceLT, Int.reduceLE, Int.reduceEq, Nat.reduceLT, Nat.reduceLeDiff, Nat.reduceEqDiff, Int.reduceNeg, qc]) | (refine Rn.f ?hc ?_; case hc => simp (config := { implicitDefEqProofs := false, maxSteps := 2000000 }) (disch := omega) only [ps, ↓reduceIte, reduceCtorEq, Int.reduceLT, Int.reduceLE, Int.reduceEq, Nat.reduceLT, Nat.reduceLeDiff, Nat.reduceEqDiff, Int.reduceNeg, qc]))
    obtain ⟨l, g1, g2, g3⟩ := qtJ la lb da db hn hd
    refine Rn.bind g1 ?_
    have ho := qyj g2
    by_cases hg : Int.gcd (Zv W n0 n1) (Zv W false d1) = 1
    · rw [e0.trans (if_pos ⟨rfl, h0, hg⟩)]
      have hl := ho.2 hg
      subst hl
      (first | (refine Rn.t ?hc ?_; case hc => simp (config := { implicitDefEqProofs := false, maxSteps := 2000000 }) (disch := omega) only [ps, ↓reduceIte, reduceCtorEq, Int.reduceLT, Int.reduceLE, Int.reduceEq, Nat.reduceLT, Nat.reduceLeDiff, Nat.reduceEqDiff, Int.reduceNeg, qc, List.length_cons]) | (refine Rn.f ?hc ?_; case hc => simp (config := { implicitDefEqProofs := false, maxSteps := 2000000 }) (disch := omega) only [ps, ↓reduceIte, reduceCtorEq, Int.reduceLT, Int.reduceLE, Int.reduceEq, Nat.reduceLT, Nat.reduceLeDiff, Nat.reduceEqDiff, Int.reduceNeg, qc, List.length_cons]))
      refine Rn.at (x := 1) rfl ?_
      (first | (refine Rn.t ?hc ?_; case hc => simp (config := { implicitDefEqProofs := false, maxSteps := 2000000 }) (disch := omega) only [ps, ↓reduceIte, reduceCtorEq, Int.reduceLT, Int.reduceLE, Int.reduceEq, Nat.reduceLT, Nat.reduceLeDiff, Nat.reduceEqDiff, Int.reduceNeg, qc]) | (refine Rn.f ?hc ?_; case hc => simp (config := { implicitDefEqProofs := false, maxSteps := 2000000 }) (disch := omega) only [ps, ↓reduceIte, reduceCtorEq, Int.reduceLT, Int.reduceLE, Int.reduceEq, Nat.reduceLT, Nat.reduceLeDiff, Nat.reduceEqDiff, Int.reduceNeg, qc]))
      exact Rn.pure _
    · rw [e0.trans (if_neg (fun c => hg c.2.2))]
      by_cases hlen : l.length = 1
      · obtain ⟨x, rfl⟩ : ∃ x, l = [x] := by
          match l, hlen with
          | [x], _ => exact ⟨x, rfl⟩
        (first | (refine Rn.t ?hc ?_; case hc => simp (config := { implicitDefEqProofs := false, maxSteps := 2000000 }) (disch := omega) only [ps, ↓reduceIte, reduceCtorEq, Int.reduceLT, Int.reduceLE, Int.reduceEq, Nat.reduceLT, Nat.reduceLeDiff, Nat.reduceEqDiff, Int.reduceNeg, qc, List.length_cons]) | (refine Rn.f ?hc ?_; case hc => simp (config := { implicitDefEqProofs := false, maxSteps := 2000000 }) (disch := omega) only [ps, ↓reduceIte, reduceCtorEq, Int.reduceLT, Int.reduceLE, Int.reduceEq, Nat.reduceLT, Nat.reduceLeDiff, Nat.reduceEqDiff, Int.reduceNeg, qc, List.length_cons]))
        refine Rn.at (x := x) rfl ?_
        have hx : x ≠ 1 := fun h => hg (ho.1 (by rw [h]))
        (first | (refine Rn.t ?hc ?_; case hc => simp (config := { implicitDefEqProofs := false, maxSteps := 2000000 }) (disch := omega) only [ps, ↓reduceIte, reduceCtorEq, Int.reduceLT, Int.reduceLE, Int.reduceEq, Nat.reduceLT, Nat.reduceLeDiff, Nat.reduceEqDiff, Int.reduceNeg, qc]) | (refine Rn.f ?hc ?_; case hc => simp (config := { implicitDefEqProofs := false, maxSteps := 2000000 }) (disch := omega) only [ps, ↓reduceIte, reduceCtorEq, Int.reduceLT, Int.reduceLE, Int.reduceEq, Nat.reduceLT, Nat.reduceLeDiff, Nat.reduceEqDiff, Int.reduceNeg, qc]))
        exact Rn.pure _
      · (first | (refine Rn.t ?hc ?_; case hc => simp (config := { implicitDefEqProofs := false, maxSteps := 2000000 }) (disch := omega) only [ps, ↓reduceIte, reduceCtorEq, Int.reduceLT, Int.reduceLE, Int.reduceEq, Nat.reduceLT, Nat.reduceLeDiff, Nat.reduceEqDiff, Int.reduceNeg, qc]) | (refine Rn.f ?hc ?_; case hc => simp (config := { implicitDefEqProofs := false, maxSteps := 2000000 }) (disch := omega) only [ps, ↓reduceIte, reduceCtorEq, Int.reduceLT, Int.reduceLE, Int.reduceEq, Nat.reduceLT, Nat.reduceLeDiff, Nat.reduceEqDiff, Int.reduceNeg, qc]))
        exact Rn.pure _
end
abbrev RT := (Bool × List Int) × Bool × List Int
def RT.f (r : RT) : Int := qfq r.1.1 r.1.2 r.2.1 r.2.2
def RT.good (r : RT) : Prop := (r.1.2.length ≤ 9223372036854775807 ∧ Dg W r.1.2) ∧ r.2.2.length ≤ 9223372036854775807 ∧ Dg W r.2.2
section
variable {x0 x2 y0 y2 : Bool} {x1 x3 y1 y3 : List Int} {x y : Rat} (hx : Fr x0 x1 x2 x3 x) (hy : Fr y0 y1 y2 y3 y) (l1 : x1.length ≤ 72) (l3 : x3.length ≤ 72) (m1 : y1.length ≤ 72) (m3 : y3.length ≤ 72)
include hx hy l1 l3 m1 m3
end
end Go.Proofs.YtbhnafdmilfobaaGreat.Am

/- qt reckoning: a number's text. -/
set_option linter.unusedVariables false
set_option linter.unusedSimpArgs false
set_option maxRecDepth 10000
namespace Go.Proofs.YtbhnafdmilfobaaGreat.Am
open Go

structure Tx (z : Int) (s : ByteArray) : Prop where
  nz : z = 0 → s = bytesOf [48]
  ex : z ≠ 0 → ∃ l, Cn 10 l ∧ V 10 l = z.natAbs ∧ s = bytesOf ((if z < 0 then [45] else []) ++ (sg l).reverse)
theorem Tx.ext {z : Int} {s t : ByteArray} (h1 : Tx z s) (h2 : Tx z t) : s = t := by
  by_cases h : z = 0
  · rw [h1.nz h, h2.nz h]
  · obtain ⟨l, a1, a2, a3⟩ := h1.ex h
    obtain ⟨m, b1, b2, b3⟩ := h2.ex h
    rw [a3, b3, Cn.ext (by decide) a1 b1 (by rw [a2, b2])]
end Go.Proofs.YtbhnafdmilfobaaGreat.Am

/- qt reckoning: the reference's text of a number; machine numbers, both ways. -/
set_option linter.unusedVariables false
set_option linter.unusedSimpArgs false
set_option maxRecDepth 10000
namespace Go.Proofs.YtbhnafdmilfobaaGreat.Am
open Go

theorem qoz (k : Nat) (x0 a0 : Bool) : ∀ (d n : Nat) (u : Int) (l : List Int), 0 ≤ u ∧ u < U ^ d → u < 18446744073709551616 → d < n → l.length ≤ 1000 - d → d ≤ 100 → Dg U l → (u = 0 → Cn U l) →
    ∃ l', qaf k n u x0 0 a0 l.length [] l = some (x0, 0, a0, l'.length, [], l') ∧ Cn U l' ∧ V U l' = V U l + U ^ l.length * u ∧ l'.length ≤ l.length + d := by
  intro d
  induction d with
  | zero =>
    intro n u l hu hub hn hl hd9 hd hc
    obtain ⟨n, rfl⟩ : ∃ m, n = m + 1 := ⟨n - 1, by omega⟩
    have hu0 : u = 0 := by simp at hu; omega
    subst hu0
    refine ⟨l, ?_, hc rfl, by simp, by omega⟩
    show qbg k (qaf k n) _ _ _ _ _ _ _ = _
    unfold qbg
    simp (config := { implicitDefEqProofs := false, maxSteps := 2000000 }) (disch := omega) only [ps, ↓reduceIte, reduceCtorEq, Int.reduceLT, Int.reduceLE, Int.reduceEq, Nat.reduceLT, Nat.reduceLeDiff, Nat.reduceEqDiff, Int.reduceNeg, qc]
  | succ d ih =>
    intro n u l hu hub hn hl hd9 hd hc
    obtain ⟨n, rfl⟩ : ∃ m, n = m + 1 := ⟨n - 1, by omega⟩
    by_cases hu0 : u = 0
    · subst hu0
      refine ⟨l, ?_, hc rfl, by simp, by omega⟩
      show qbg k (qaf k n) _ _ _ _ _ _ _ = _
      unfold qbg
      simp (config := { implicitDefEqProofs := false, maxSteps := 2000000 }) (disch := omega) only [ps, ↓reduceIte, reduceCtorEq, Int.reduceLT, Int.reduceLE, Int.reduceEq, Nat.reduceLT, Nat.reduceLeDiff, Nat.reduceEqDiff, Int.reduceNeg, qc]
    · have hu2 : u / 65536 < U ^ d := by
        have := hu.2
        rw [Int.pow_succ] at this
        unfold U at this ⊢
        omega
      have hdm := Int.emod_add_mul_ediv u 65536
      have hlen : (l ++ [u % 65536]).length = l.length + 1 := by simp
      have hdl : Dg U (l ++ [u % 65536]) := hd.snoc (by unfold U; omega)
      obtain ⟨l', q1, q2, q3, q4⟩ := ih n (u / 65536) (l ++ [u % 65536]) ⟨by omega, hu2⟩ (by omega) (by omega) (by rw [hlen]; omega) (by omega) hdl (fun h => ⟨hdl, (Cn.last hdl).2 (.inr ⟨l, u % 65536, rfl, by omega⟩)⟩)
      refine ⟨l', ?_, q2, ?_, by rw [hlen] at q4; omega⟩
      · rw [hlen] at q1
        rw [← q1]
        show qbg k (qaf k n) _ _ _ _ _ _ _ = _
        unfold qbg
        have ht : l.take l.length = l := List.take_length
        simp (config := { implicitDefEqProofs := false, maxSteps := 2000000 }) (disch := omega) only [ps, ↓reduceIte, reduceCtorEq, Int.reduceLT, Int.reduceLE, Int.reduceEq, Nat.reduceLT, Nat.reduceLeDiff, Nat.reduceEqDiff, Int.reduceNeg, qc, qc6, qc7, ht, List.take_succ_cons, List.length_cons]
      · rw [q3, qdF, hlen, Int.pow_succ]
        unfold U
        grind
theorem qhu (v : Int) (hv : -9223372036854775808 ≤ v ∧ v ≤ 9223372036854775807) : ∃ l, Rn (fun k => qaR k v) (decide (v < 0), l) ∧ Nm U (decide (v < 0)) l v ∧ l.length ≤ 4 := by
  have main : ∀ (x0 : Bool) (u : Int), 0 ≤ u ∧ u < 18446744073709551616 → ∃ l, Cn U l ∧ V U l = u ∧ l.length ≤ 4 ∧ ∀ k, 5 ≤ k → qaf k k u false 0 x0 0 [] [] = some (false, 0, x0, l.length, [], l) := by
    intro x0 u hu
    have h4 : u < U ^ 4 := by unfold U; simpa using hu.2
    obtain ⟨l, q1, q2, q3, q4⟩ := qoz 5 false x0 4 5 u [] ⟨hu.1, h4⟩ hu.2 (by omega) (by simp) (by omega) Dg.nil (fun _ => Cn.nil)
    refine ⟨l, q2, by rw [q3]; simp [V], by simpa using q4, fun k hk => ?_⟩
    obtain ⟨l', r1, r2, r3, r4⟩ := qoz k false x0 4 k u [] ⟨hu.1, h4⟩ hu.2 (by omega) (by simp) (by omega) Dg.nil (fun _ => Cn.nil)
    have : l' = l := Cn.ext (by decide) r2 q2 (by rw [r3, q3])
    subst this
    exact r1
  by_cases h : v < 0
  · obtain ⟨l, h1, h2, h3, h4⟩ := main true (-v) (by omega)
    refine ⟨l, ?_, Nm.of (by decide) h1 (by omega), h3⟩
    refine Rn.up (f := fun k => qaR k v) (Rn.eq 5 fun k hk => ?_)
    show qdo k v = _
    unfold qdo
    have e1 : IntKind.u64.wrap (0 - IntKind.u64.wrap v) = -v := by rw [qdO, qdO]; omega
    have hh := h4 k hk
    rw [if_pos (by simpa using h), e1]
    simp (config := { implicitDefEqProofs := false, maxSteps := 2000000 }) (disch := omega) only [ps, ↓reduceIte, reduceCtorEq, Int.reduceLT, Int.reduceLE, Int.reduceEq, Nat.reduceLT, Nat.reduceLeDiff, Nat.reduceEqDiff, Int.reduceNeg, qc, hh, List.take_length, h, decide_true, decide_false]
  · obtain ⟨l, h1, h2, h3, h4⟩ := main false v (by omega)
    refine ⟨l, ?_, Nm.of (by decide) h1 (by omega), h3⟩
    refine Rn.up (f := fun k => qaR k v) (Rn.eq 5 fun k hk => ?_)
    show qdo k v = _
    unfold qdo
    have hh := h4 k hk
    have e1 : IntKind.u64.wrap v = v := qal (by omega)
    rw [if_neg (by simpa using h), e1]
    simp (config := { implicitDefEqProofs := false, maxSteps := 2000000 }) (disch := omega) only [ps, ↓reduceIte, reduceCtorEq, Int.reduceLT, Int.reduceLE, Int.reduceEq, Nat.reduceLT, Nat.reduceLeDiff, Nat.reduceEqDiff, Int.reduceNeg, qc, hh, List.take_length, h, decide_true, decide_false]
end Go.Proofs.YtbhnafdmilfobaaGreat.Am

/- qt reckoning: numbers as machine words of 64 bits. -/
set_option linter.unusedVariables false
set_option linter.unusedSimpArgs false
set_option maxRecDepth 10000
namespace Go.Proofs.YtbhnafdmilfobaaGreat.Am
open Go

theorem qwp (k : Nat) (z0 : Bool) (z1 : List Int) (hl : z1.length ≤ 2) (hd : Dg W z1) : ∀ (m n : Nat) (u : Int), m ≤ z1.length → m < n → u = V W (z1.drop m) → qaN k n u ((m : Int) - 1) z0 z1 = some (V W z1, z0, z1) := by
  intro m
  induction m with
  | zero =>
    intro n u hm hn hu
    obtain ⟨n, rfl⟩ : ∃ m, n = m + 1 := ⟨n - 1, by omega⟩
    show qb6 k (qaN k n) _ _ _ _ = _
    unfold qb6
    rw [hu]
    simp (config := { implicitDefEqProofs := false, maxSteps := 2000000 }) (disch := omega) only [ps, ↓reduceIte, reduceCtorEq, Int.reduceLT, Int.reduceLE, Int.reduceEq, Nat.reduceLT, Nat.reduceLeDiff, Nat.reduceEqDiff, Int.reduceNeg, qc]
    rfl
  | succ i ih =>
    intro n u hm hn hu
    obtain ⟨n, rfl⟩ : ∃ m, n = m + 1 := ⟨n - 1, by omega⟩
    obtain ⟨x, hx⟩ := qE (show i < z1.length by omega)
    have hxb := hd.get hx
    have h1 : (((i + 1 : Nat) : Int) - 1) = (i : Int) := by omega
    have hub : 0 ≤ u ∧ u < 4294967296 := by
      have a1 := qr (B := W) (by decide) (hd.drop (i + 1))
      have a2 := qdr (B := W) (by decide) (hd.drop (i + 1))
      have a3 := qft (B := W) (by decide) (show (z1.drop (i + 1)).length ≤ 1 by rw [List.length_drop]; omega)
      rw [← hu] at a1 a2
      have a4 : W ^ 1 = 4294967296 := by decide
      omega
    unfold W at hxb
    have e0 : IntKind.u64.wrap (u * 4294967296) = u * 4294967296 := qal (by omega)
    have e2 : IntKind.u64.wrap x = x := qal (by omega)
    have e1 := qlI (x := u) (y := x) (by omega) (by omega)
    have e3 : IntKind.u64.wrap (u * 4294967296 + x) = u * 4294967296 + x := qal (by omega)
    have key := ih n (u * 4294967296 + x) (by omega) (by omega) (by rw [qbp hx, ← hu]; unfold W; omega)
    show qb6 k (qaN k n) _ _ _ _ = _
    unfold qb6
    simp (config := { implicitDefEqProofs := false, maxSteps := 2000000 }) (disch := omega) only [ps, ↓reduceIte, reduceCtorEq, Int.reduceLT, Int.reduceLE, Int.reduceEq, Nat.reduceLT, Nat.reduceLeDiff, Nat.reduceEqDiff, Int.reduceNeg, qc, hx, h1, e0, e2, e1, e3, key]
theorem qiO (x : Int) : IntKind.i64.wrap x = (x + 9223372036854775808) % 18446744073709551616 - 9223372036854775808 := by
  simp only [IntKind.wrap, IntKind.bits, IntKind.signed]
  simp
  omega
theorem qyk (k : Nat) (a0 : Bool) (a1 : List Int) (hl : a1.length ≤ 1000) (hd : Dg U a1) (hb : V U a1 ≤ 9223372036854775808) : ∀ (m n : Nat) (u : Int), m ≤ a1.length → m < n → u = V U (a1.drop m) → qaG k n u ((m : Int) - 1) a0 a1 = some (V U a1, a0, a1) := by
  intro m
  induction m with
  | zero =>
    intro n u hm hn hu
    obtain ⟨n, rfl⟩ : ∃ m, n = m + 1 := ⟨n - 1, by omega⟩
    show qch k (qaG k n) _ _ _ _ = _
    unfold qch
    rw [hu]
    simp (config := { implicitDefEqProofs := false, maxSteps := 2000000 }) (disch := omega) only [ps, ↓reduceIte, reduceCtorEq, Int.reduceLT, Int.reduceLE, Int.reduceEq, Nat.reduceLT, Nat.reduceLeDiff, Nat.reduceEqDiff, Int.reduceNeg, qc]
    rfl
  | succ i ih =>
    intro n u hm hn hu
    obtain ⟨n, rfl⟩ : ∃ m, n = m + 1 := ⟨n - 1, by omega⟩
    obtain ⟨x, hx⟩ := qE (show i < a1.length by omega)
    have hxb := hd.get hx
    have h1 : (((i + 1 : Nat) : Int) - 1) = (i : Int) := by omega
    have hs := qdW (B := U) a1 i (by omega)
    have p1 := qr (B := U) (by decide) (hd.take i)
    have p2 := qr (B := U) (by decide) (hd.drop i)
    have p3 := qr (B := U) (by decide) (hd.drop (i + 1))
    have p4 : V U (a1.drop i) ≤ V U a1 := by
      have h5 : 1 * V U (a1.drop i) ≤ U ^ i * V U (a1.drop i) := Int.mul_le_mul_of_nonneg_right (by have := qBU i; omega) p2
      omega
    rw [qbp hx, ← hu] at p4 p2
    rw [← hu] at p3
    have p5 : x + U * u ≤ 9223372036854775808 := by omega
    unfold U at hxb p5
    have e0 : IntKind.u64.wrap (u * 65536) = u * 65536 := qal (by omega)
    have e2 : IntKind.u64.wrap x = x := qal (by omega)
    have e3 : IntKind.u64.wrap (u * 65536 + x) = u * 65536 + x := qal (by omega)
    have key := ih n (u * 65536 + x) (by omega) (by omega) (by rw [qbp hx, ← hu]; unfold U; omega)
    show qch k (qaG k n) _ _ _ _ = _
    unfold qch
    simp (config := { implicitDefEqProofs := false, maxSteps := 2000000 }) (disch := omega) only [ps, ↓reduceIte, reduceCtorEq, Int.reduceLT, Int.reduceLE, Int.reduceEq, Nat.reduceLT, Nat.reduceLeDiff, Nat.reduceEqDiff, Int.reduceNeg, qc, hx, h1, e0, e2, e3, key]
theorem quH (a0 : Bool) (a1 : List Int) (hl : a1.length ≤ 1000) {z : Int} (hn : Nm U a0 a1 z) :
    Rn (fun k => qcm k a0 a1) (if -9223372036854775808 ≤ z ∧ z ≤ 9223372036854775807 then (z, true) else (0, false)) := by
  have p0 := qr (B := U) (by decide) hn.c.1
  have hzz := hn.z
  obtain ⟨l1, h1, h2, h3⟩ := qhu (-9223372036854775808) (by decide)
  obtain ⟨l2, g1, g2, g3⟩ := qhu 9223372036854775807 (by decide)
  have e1 := qoi a0 _ a1 l1 hn h2 (by omega) (by omega)
  have e2 := qoi a0 _ a1 l2 hn g2 (by omega) (by omega)
  obtain ⟨c1, w1, f1⟩ := qci z (-9223372036854775808)
  obtain ⟨c2, w2, f2⟩ := qci z 9223372036854775807
  rw [w1] at e1
  rw [w2] at e2
  refine Rn.up (f := fun k => qcm k a0 a1) ?_
  show Rn (fun k => qeF k a0 a1) _
  unfold qeF
  refine Rn.bind h1 (Rn.bind e1 ?_)
  by_cases hlo : -9223372036854775808 ≤ z
  · (first | (refine Rn.t ?hc ?_; case hc => simp (config := { implicitDefEqProofs := false, maxSteps := 2000000 }) (disch := omega) only [ps, ↓reduceIte, reduceCtorEq, Int.reduceLT, Int.reduceLE, Int.reduceEq, Nat.reduceLT, Nat.reduceLeDiff, Nat.reduceEqDiff, Int.reduceNeg, qc]) | (refine Rn.f ?hc ?_; case hc => simp (config := { implicitDefEqProofs := false, maxSteps := 2000000 }) (disch := omega) only [ps, ↓reduceIte, reduceCtorEq, Int.reduceLT, Int.reduceLE, Int.reduceEq, Nat.reduceLT, Nat.reduceLeDiff, Nat.reduceEqDiff, Int.reduceNeg, qc]))
    refine Rn.bind g1 (Rn.bind e2 ?_)
    by_cases hhi : z ≤ 9223372036854775807
    · (first | (refine Rn.t ?hc ?_; case hc => simp (config := { implicitDefEqProofs := false, maxSteps := 2000000 }) (disch := omega) only [ps, ↓reduceIte, reduceCtorEq, Int.reduceLT, Int.reduceLE, Int.reduceEq, Nat.reduceLT, Nat.reduceLeDiff, Nat.reduceEqDiff, Int.reduceNeg, qc]) | (refine Rn.f ?hc ?_; case hc => simp (config := { implicitDefEqProofs := false, maxSteps := 2000000 }) (disch := omega) only [ps, ↓reduceIte, reduceCtorEq, Int.reduceLT, Int.reduceLE, Int.reduceEq, Nat.reduceLT, Nat.reduceLeDiff, Nat.reduceEqDiff, Int.reduceNeg, qc]))
      rw [if_pos ⟨hlo, hhi⟩]
      have hb : V U a1 ≤ 9223372036854775808 := by cases a0 <;> simp at hzz <;> omega
      have hr : Rn (fun k => qaG k k 0 (IntKind.i64.wrap ((a1.length : Int) - 1)) a0 a1) (V U a1, a0, a1) := by
        refine Rn.eq (a1.length + 1) fun k hk => ?_
        rw [qj (by omega)]
        exact qyk k a0 a1 hl hn.c.1 hb a1.length k 0 (Nat.le_refl _) (by omega) (by rw [List.drop_length]; rfl)
      refine Rn.bind hr ?_
      cases a0
      · simp only [Bool.false_eq_true, if_false] at hzz ⊢
        rw [qj (by omega), hzz]
        exact Rn.pure _
      · simp only [if_true] at hzz ⊢
        have e : IntKind.i64.wrap (IntKind.u64.wrap (0 - V U a1)) = z := by rw [qiO, qdO]; omega
        rw [e]
        exact Rn.pure _
    · (first | (refine Rn.t ?hc ?_; case hc => simp (config := { implicitDefEqProofs := false, maxSteps := 2000000 }) (disch := omega) only [ps, ↓reduceIte, reduceCtorEq, Int.reduceLT, Int.reduceLE, Int.reduceEq, Nat.reduceLT, Nat.reduceLeDiff, Nat.reduceEqDiff, Int.reduceNeg, qc]) | (refine Rn.f ?hc ?_; case hc => simp (config := { implicitDefEqProofs := false, maxSteps := 2000000 }) (disch := omega) only [ps, ↓reduceIte, reduceCtorEq, Int.reduceLT, Int.reduceLE, Int.reduceEq, Nat.reduceLT, Nat.reduceLeDiff, Nat.reduceEqDiff, Int.reduceNeg, qc]))
      rw [if_neg (by omega)]
      exact Rn.pure _
  · (first | (refine Rn.t ?hc ?_; case hc => simp (config := { implicitDefEqProofs := false, maxSteps := 2000000 }) (disch := omega) only [ps, ↓reduceIte, reduceCtorEq, Int.reduceLT, Int.reduceLE, Int.reduceEq, Nat.reduceLT, Nat.reduceLeDiff, Nat.reduceEqDiff, Int.reduceNeg, qc]) | (refine Rn.f ?hc ?_; case hc => simp (config := { implicitDefEqProofs := false, maxSteps := 2000000 }) (disch := omega) only [ps, ↓reduceIte, reduceCtorEq, Int.reduceLT, Int.reduceLE, Int.reduceEq, Nat.reduceLT, Nat.reduceLeDiff, Nat.reduceEqDiff, Int.reduceNeg, qc]))
    rw [if_neg (by omega)]
    exact Rn.pure _
end Go.Proofs.YtbhnafdmilfobaaGreat.Am

/- qt reckoning: a fraction rounded to the grid. -/
set_option linter.unusedVariables false
set_option linter.unusedSectionVars false
set_option linter.unusedSimpArgs false
set_option maxRecDepth 10000
namespace Go.Proofs.YtbhnafdmilfobaaGreat.Am
open Go

def qfH (x d : Int) : Int := if d < 2 * (x.tmod d).natAbs ∨ (2 * (x.tmod d).natAbs = d ∧ x.tdiv d % 2 ≠ 0) then x.tdiv d + x.sign else x.tdiv d
def qew (z : Int) : Int × Int := if -1000000000000000000 ≤ z ∧ z ≤ 1000000000000000000 then (z, 0) else (0, 4)
theorem qrZ {z0 : Bool} {z1 : List Int} {z : Int} (hn : Nm W z0 z1 z) (h1000 : z1.length ≤ 1000000) :
    ∃ v ok, Rn (fun k => qaZ k z0 z1) (v, ok, z0, z1) ∧ (ok = decide (-9223372036854775808 ≤ z ∧ z ≤ 9223372036854775807)) ∧ (ok = true → v = z) := by
  have hab := hn.abs (B := W) (by decide)
  have hng := hn.neg (B := W) (by decide)
  have p0 := qr (B := W) (by decide) hn.c.1
  have hzz := hn.z
  by_cases h2 : z1.length ≤ 2
  · have hb : V W z1 < 18446744073709551616 := by
      have a2 := qdr (B := W) (by decide) hn.c.1
      have a3 := qft (B := W) (by decide) h2
      have a4 : W ^ 2 = 18446744073709551616 := by decide
      omega
    have hr : Rn (fun k => qaZ k z0 z1) (if z0 then (IntKind.i64.wrap (0 - IntKind.i64.wrap (V W z1)), decide (V W z1 ≤ 9223372036854775808), z0, z1) else (IntKind.i64.wrap (V W z1), decide (V W z1 < 9223372036854775808), z0, z1)) := by
      refine Rn.up (f := fun k => qaZ k z0 z1) (Rn.eq (z1.length + 1) fun k hk => ?_)
      show qc2 k z0 z1 = _
      unfold qc2
      have hl := qwp k z0 z1 h2 hn.c.1 z1.length k 0 (Nat.le_refl _) (by omega) (by rw [List.drop_length]; rfl)
      cases z0
      · simp (config := { implicitDefEqProofs := false, maxSteps := 2000000 }) (disch := omega) only [ps, ↓reduceIte, reduceCtorEq, Int.reduceLT, Int.reduceLE, Int.reduceEq, Nat.reduceLT, Nat.reduceLeDiff, Nat.reduceEqDiff, Int.reduceNeg, qc, hl]
      · simp (config := { implicitDefEqProofs := false, maxSteps := 2000000 }) (disch := omega) only [ps, ↓reduceIte, reduceCtorEq, Int.reduceLT, Int.reduceLE, Int.reduceEq, Nat.reduceLT, Nat.reduceLeDiff, Nat.reduceEqDiff, Int.reduceNeg, qc, hl]
    cases z0
    · simp only [Bool.false_eq_true, if_false] at hzz hr
      refine ⟨_, _, hr, ?_, ?_⟩
      · exact decide_eq_decide.2 (by omega)
      · intro h
        have := of_decide_eq_true h
        rw [qj (by omega)]; exact hzz
    · simp only [if_true] at hzz hr
      refine ⟨_, _, hr, ?_, ?_⟩
      · exact decide_eq_decide.2 (by omega)
      · intro h
        have := of_decide_eq_true h
        rw [qiO, qiO]; omega
  · have hbig : 18446744073709551616 ≤ V W z1 := by
      have a2 := hn.c.ge (B := W) (by decide) (by rintro rfl; simp at h2)
      have a3 := qft (B := W) (by decide) (show 2 ≤ z1.length - 1 by omega)
      have a4 : W ^ 2 = 18446744073709551616 := by decide
      omega
    refine ⟨0, false, Rn.up (f := fun k => qaZ k z0 z1) ?_, ?_, fun h => by cases h⟩
    · show Rn (fun k => qc2 k z0 z1) _
      unfold qc2
      (first | (refine Rn.t ?hc ?_; case hc => simp (config := { implicitDefEqProofs := false, maxSteps := 2000000 }) (disch := omega) only [ps, ↓reduceIte, reduceCtorEq, Int.reduceLT, Int.reduceLE, Int.reduceEq, Nat.reduceLT, Nat.reduceLeDiff, Nat.reduceEqDiff, Int.reduceNeg, qc]) | (refine Rn.f ?hc ?_; case hc => simp (config := { implicitDefEqProofs := false, maxSteps := 2000000 }) (disch := omega) only [ps, ↓reduceIte, reduceCtorEq, Int.reduceLT, Int.reduceLE, Int.reduceEq, Nat.reduceLT, Nat.reduceLeDiff, Nat.reduceEqDiff, Int.reduceNeg, qc]))
      exact Rn.pure _
    · rw [eq_comm, decide_eq_false_iff_not]; omega
theorem qyl {z0 : Bool} {z1 : List Int} {z : Int} (hn : Nm W z0 z1 z) (hl : z1.length ≤ 1000000) : Rn (fun k => qdu k z0 z1) ((qew z).1, (qew z).2, z0, z1) := by
  obtain ⟨v, ok, h1, h2, h3⟩ := qrZ hn hl
  refine Rn.up (f := fun k => qdu k z0 z1) ?_
  show Rn (fun k => qfX k z0 z1) _
  unfold qfX
  refine Rn.bind h1 ?_
  by_cases hok : -9223372036854775808 ≤ z ∧ z ≤ 9223372036854775807
  · rw [decide_eq_true hok] at h2
    subst h2
    have hv := h3 rfl
    subst hv
    (first | (refine Rn.t ?hc ?_; case hc => simp (config := { implicitDefEqProofs := false, maxSteps := 2000000 }) (disch := omega) only [ps, ↓reduceIte, reduceCtorEq, Int.reduceLT, Int.reduceLE, Int.reduceEq, Nat.reduceLT, Nat.reduceLeDiff, Nat.reduceEqDiff, Int.reduceNeg, qc]) | (refine Rn.f ?hc ?_; case hc => simp (config := { implicitDefEqProofs := false, maxSteps := 2000000 }) (disch := omega) only [ps, ↓reduceIte, reduceCtorEq, Int.reduceLT, Int.reduceLE, Int.reduceEq, Nat.reduceLT, Nat.reduceLeDiff, Nat.reduceEqDiff, Int.reduceNeg, qc]))
    by_cases h4 : v ≤ 1000000000000000000
    · (first | (refine Rn.t ?hc ?_; case hc => simp (config := { implicitDefEqProofs := false, maxSteps := 2000000 }) (disch := omega) only [ps, ↓reduceIte, reduceCtorEq, Int.reduceLT, Int.reduceLE, Int.reduceEq, Nat.reduceLT, Nat.reduceLeDiff, Nat.reduceEqDiff, Int.reduceNeg, qc]) | (refine Rn.f ?hc ?_; case hc => simp (config := { implicitDefEqProofs := false, maxSteps := 2000000 }) (disch := omega) only [ps, ↓reduceIte, reduceCtorEq, Int.reduceLT, Int.reduceLE, Int.reduceEq, Nat.reduceLT, Nat.reduceLeDiff, Nat.reduceEqDiff, Int.reduceNeg, qc]))
      by_cases h5 : -1000000000000000000 ≤ v
      · have e : qew v = (v, 0) := if_pos ⟨h5, h4⟩
        rw [e]
        (first | (refine Rn.t ?hc ?_; case hc => simp (config := { implicitDefEqProofs := false, maxSteps := 2000000 }) (disch := omega) only [ps, ↓reduceIte, reduceCtorEq, Int.reduceLT, Int.reduceLE, Int.reduceEq, Nat.reduceLT, Nat.reduceLeDiff, Nat.reduceEqDiff, Int.reduceNeg, qc]) | (refine Rn.f ?hc ?_; case hc => simp (config := { implicitDefEqProofs := false, maxSteps := 2000000 }) (disch := omega) only [ps, ↓reduceIte, reduceCtorEq, Int.reduceLT, Int.reduceLE, Int.reduceEq, Nat.reduceLT, Nat.reduceLeDiff, Nat.reduceEqDiff, Int.reduceNeg, qc]))
        exact Rn.pure _
      · have e : qew v = (0, 4) := if_neg (fun c => h5 c.1)
        rw [e]
        (first | (refine Rn.t ?hc ?_; case hc => simp (config := { implicitDefEqProofs := false, maxSteps := 2000000 }) (disch := omega) only [ps, ↓reduceIte, reduceCtorEq, Int.reduceLT, Int.reduceLE, Int.reduceEq, Nat.reduceLT, Nat.reduceLeDiff, Nat.reduceEqDiff, Int.reduceNeg, qc]) | (refine Rn.f ?hc ?_; case hc => simp (config := { implicitDefEqProofs := false, maxSteps := 2000000 }) (disch := omega) only [ps, ↓reduceIte, reduceCtorEq, Int.reduceLT, Int.reduceLE, Int.reduceEq, Nat.reduceLT, Nat.reduceLeDiff, Nat.reduceEqDiff, Int.reduceNeg, qc]))
        exact Rn.pure _
    · have e : qew v = (0, 4) := if_neg (fun c => h4 c.2)
      rw [e]
      (first | (refine Rn.t ?hc ?_; case hc => simp (config := { implicitDefEqProofs := false, maxSteps := 2000000 }) (disch := omega) only [ps, ↓reduceIte, reduceCtorEq, Int.reduceLT, Int.reduceLE, Int.reduceEq, Nat.reduceLT, Nat.reduceLeDiff, Nat.reduceEqDiff, Int.reduceNeg, qc]) | (refine Rn.f ?hc ?_; case hc => simp (config := { implicitDefEqProofs := false, maxSteps := 2000000 }) (disch := omega) only [ps, ↓reduceIte, reduceCtorEq, Int.reduceLT, Int.reduceLE, Int.reduceEq, Nat.reduceLT, Nat.reduceLeDiff, Nat.reduceEqDiff, Int.reduceNeg, qc]))
      exact Rn.pure _
  · rw [decide_eq_false hok] at h2
    subst h2
    have e : qew z = (0, 4) := if_neg (by omega)
    rw [e]
    (first | (refine Rn.t ?hc ?_; case hc => simp (config := { implicitDefEqProofs := false, maxSteps := 2000000 }) (disch := omega) only [ps, ↓reduceIte, reduceCtorEq, Int.reduceLT, Int.reduceLE, Int.reduceEq, Nat.reduceLT, Nat.reduceLeDiff, Nat.reduceEqDiff, Int.reduceNeg, qc]) | (refine Rn.f ?hc ?_; case hc => simp (config := { implicitDefEqProofs := false, maxSteps := 2000000 }) (disch := omega) only [ps, ↓reduceIte, reduceCtorEq, Int.reduceLT, Int.reduceLE, Int.reduceEq, Nat.reduceLT, Nat.reduceLeDiff, Nat.reduceEqDiff, Int.reduceNeg, qc]))
    exact Rn.pure _
theorem qwq {z0 : Bool} {z1 : List Int} {z : Int} (hn : Nm W z0 z1 z) : Rn (fun k => qaJ k z0 z1) (z.sign, z0, z1) := by
  refine Rn.up (f := fun k => qaJ k z0 z1) ?_
  show Rn (fun k => qdc k z0 z1) _
  unfold qdc
  have hnil := hn.c.nil_iff (B := W) (by decide)
  have hab := hn.abs (B := W) (by decide)
  have hng := hn.neg (B := W) (by decide)
  cases z1 with
  | nil =>
    have hz : z = 0 := by have := hnil.1 rfl; omega
    subst hz
    simp (config := { implicitDefEqProofs := false, maxSteps := 2000000 }) (disch := omega) only [ps, ↓reduceIte, reduceCtorEq, Int.reduceLT, Int.reduceLE, Int.reduceEq, Nat.reduceLT, Nat.reduceLeDiff, Nat.reduceEqDiff, Int.reduceNeg, qc]
    exact Rn.pure _
  | cons y r =>
    have hl : (y :: r).length = r.length + 1 := rfl
    have hz : z ≠ 0 := by
      intro h
      have := hnil.2 (by rw [hab, h]; rfl)
      cases this
    cases z0
    · have : z.sign = 1 := Int.sign_eq_one_of_pos (by have : ¬ z < 0 := by simpa using hng
                                                      omega)
      rw [this]
      simp (config := { implicitDefEqProofs := false, maxSteps := 2000000 }) (disch := omega) only [ps, ↓reduceIte, reduceCtorEq, Int.reduceLT, Int.reduceLE, Int.reduceEq, Nat.reduceLT, Nat.reduceLeDiff, Nat.reduceEqDiff, Int.reduceNeg, qc, hl]
      exact Rn.pure _
    · have : z.sign = -1 := Int.sign_eq_neg_one_of_neg (by simpa using hng)
      rw [this]
      simp (config := { implicitDefEqProofs := false, maxSteps := 2000000 }) (disch := omega) only [ps, ↓reduceIte, reduceCtorEq, Int.reduceLT, Int.reduceLE, Int.reduceEq, Nat.reduceLT, Nat.reduceLeDiff, Nat.reduceEqDiff, Int.reduceNeg, qc, hl]
      exact Rn.pure _
theorem qBW {z0 : Bool} {z1 : List Int} {z : Int} (hn : Nm W z0 z1 z) : Rn (fun k => qcE k z0 z1) (decide (z % 2 ≠ 0), z0, z1) := by
  refine Rn.up (f := fun k => qcE k z0 z1) ?_
  show Rn (fun k => qeY k z0 z1) _
  unfold qeY
  have hab := hn.abs (B := W) (by decide)
  cases z1 with
  | nil =>
    have hz : z = 0 := by simp [V] at hab; omega
    subst hz
    (first | (refine Rn.t ?hc ?_; case hc => simp (config := { implicitDefEqProofs := false, maxSteps := 2000000 }) (disch := omega) only [ps, ↓reduceIte, reduceCtorEq, Int.reduceLT, Int.reduceLE, Int.reduceEq, Nat.reduceLT, Nat.reduceLeDiff, Nat.reduceEqDiff, Int.reduceNeg, qc]) | (refine Rn.f ?hc ?_; case hc => simp (config := { implicitDefEqProofs := false, maxSteps := 2000000 }) (disch := omega) only [ps, ↓reduceIte, reduceCtorEq, Int.reduceLT, Int.reduceLE, Int.reduceEq, Nat.reduceLT, Nat.reduceLeDiff, Nat.reduceEqDiff, Int.reduceNeg, qc]))
    exact Rn.pure _
  | cons y r =>
    have hl : (y :: r).length = r.length + 1 := rfl
    have hy := hn.c.1.head
    have hyW : y < 4294967296 := hy.2
    have hp : z % 2 = y % 2 := by
      simp only [V] at hab
      unfold W at hab
      omega
    have hand : (((BitVec.toNat ((BitVec.ofInt 32 y) &&& (BitVec.ofInt 32 (1 : Int)))) : Nat) : Int) = y % 2 := by
      obtain ⟨a, rfl⟩ := Int.eq_ofNat_of_zero_le hy.1
      have h1 : (BitVec.ofInt 32 (a : Int)).toNat = a := by rw [BitVec.toNat_ofInt]; omega
      have h2 : (BitVec.ofInt 32 (1 : Int)).toNat = 1 := by decide
      rw [BitVec.toNat_and, h1, h2, Nat.and_one_is_mod]
      omega
    (first | (refine Rn.t ?hc ?_; case hc => simp (config := { implicitDefEqProofs := false, maxSteps := 2000000 }) (disch := omega) only [ps, ↓reduceIte, reduceCtorEq, Int.reduceLT, Int.reduceLE, Int.reduceEq, Nat.reduceLT, Nat.reduceLeDiff, Nat.reduceEqDiff, Int.reduceNeg, qc, hl]) | (refine Rn.f ?hc ?_; case hc => simp (config := { implicitDefEqProofs := false, maxSteps := 2000000 }) (disch := omega) only [ps, ↓reduceIte, reduceCtorEq, Int.reduceLT, Int.reduceLE, Int.reduceEq, Nat.reduceLT, Nat.reduceLeDiff, Nat.reduceEqDiff, Int.reduceNeg, qc, hl]))
    refine Rn.at (x := y) rfl ?_
    have e : ((IntKind.wrap .u32 (((BitVec.toNat ((BitVec.ofInt 32 y) &&& (BitVec.ofInt 32 (1 : Int)))) : Nat) : Int)) == (1 : Int)) = decide (z % 2 ≠ 0) := by
      rw [hand, qdV (by omega), hp]
      have : (y % 2 == 1) = decide (y % 2 = 1) := rfl
      rw [this]
      exact decide_eq_decide.2 (by omega)
    rw [e]
    exact Rn.pure _
theorem qym {n0 : Bool} {n1 d1 : List Int} {x d : Int} (nx : Nm W n0 n1 x) (nd : Nm W false d1 d) (hx : n1.length ≤ 1000000) (hd : d1.length ≤ 1000000) (h0 : 0 < d) :
    ∃ s l, Rn (fun k => qc9 k n0 n1 false d1) (n0, n1, false, d1, s, l) ∧ Nm W s l (qfH x d) ∧ l.length ≤ n1.length + 3 := by
  have hne : d1 ≠ [] := by
    rintro rfl
    have := nd.z
    simp [V] at this
    omega
  obtain ⟨s, q, t, r, a1, a2, a3, a4, a5⟩ := qox false n0 false false n1 d1 nx nd (by omega) (by omega) hne
  have hr0 : Nm W (sgn false r) (tl r) ((x.tmod d).natAbs : Int) := (qfo (neg := false) a3.c.1 (a3.abs (by decide))).cast (by simp)
  have hab : Rn (fun k => qcB k false t r) (sgn false r, tl r, t, r) := Rn.up (f := fun k => qcB k false t r) (Rn.bind (qgX false false r (by omega)) (Rn.pure _))
  have ltr := qbo r
  obtain ⟨s2, l2, b1, b2, b3⟩ := qsh (sgn false r) (sgn false r) (tl r) (tl r) (by omega) (by omega) hr0.c hr0.c
  rw [hr0.z] at b2
  have hadd : Rn (fun k => qcC k (sgn false r) (tl r)) (s2, l2) := Rn.up (f := fun k => qcC k (sgn false r) (tl r)) (Rn.bind b1 (Rn.pure _))
  have hcmp := qBO s2 false l2 d1 b2 nd (by omega) (by omega)
  obtain ⟨c, hc, hcc⟩ := qci (((x.tmod d).natAbs : Int) + (x.tmod d).natAbs) d
  rw [hc] at hcmp
  have hsg := qwq nx
  have hs3 := Int.sign_trichotomy x
  obtain ⟨m, c1, c2, c3⟩ := qen x.sign (by omega)
  obtain ⟨s4, l4, d1', d2, d3⟩ := qoe s (decide (x.sign < 0)) q m a2 c2 (by omega) (by omega)
  have hodd := qBW a2
  by_cases hup : d < 2 * ((x.tmod d).natAbs : Int) ∨ (2 * ((x.tmod d).natAbs : Int) = d ∧ x.tdiv d % 2 ≠ 0)
  · have hv : qfH x d = x.tdiv d + x.sign := if_pos hup
    rw [← hv] at d2
    refine ⟨s4, l4, Rn.up (f := fun k => qc9 k n0 n1 false d1) ?_, d2, by omega⟩
    show Rn (fun k => qdT k n0 n1 false d1) _
    unfold qdT
    refine Rn.bind a1 (Rn.bind hab (Rn.bind hadd (Rn.bind hcmp ?_)))
    by_cases h1 : d < 2 * ((x.tmod d).natAbs : Int)
    · (first | (refine Rn.t ?hc ?_; case hc => simp (config := { implicitDefEqProofs := false, maxSteps := 2000000 }) (disch := omega) only [ps, ↓reduceIte, reduceCtorEq, Int.reduceLT, Int.reduceLE, Int.reduceEq, Nat.reduceLT, Nat.reduceLeDiff, Nat.reduceEqDiff, Int.reduceNeg, qc]) | (refine Rn.f ?hc ?_; case hc => simp (config := { implicitDefEqProofs := false, maxSteps := 2000000 }) (disch := omega) only [ps, ↓reduceIte, reduceCtorEq, Int.reduceLT, Int.reduceLE, Int.reduceEq, Nat.reduceLT, Nat.reduceLeDiff, Nat.reduceEqDiff, Int.reduceNeg, qc]))
      exact Rn.bind hsg (Rn.bind c1 (Rn.bind d1' (Rn.pure _)))
    · have h2 : 2 * ((x.tmod d).natAbs : Int) = d ∧ x.tdiv d % 2 ≠ 0 := hup.resolve_left h1
      rw [decide_eq_true h2.2] at hodd
      (first | (refine Rn.t ?hc ?_; case hc => simp (config := { implicitDefEqProofs := false, maxSteps := 2000000 }) (disch := omega) only [ps, ↓reduceIte, reduceCtorEq, Int.reduceLT, Int.reduceLE, Int.reduceEq, Nat.reduceLT, Nat.reduceLeDiff, Nat.reduceEqDiff, Int.reduceNeg, qc]) | (refine Rn.f ?hc ?_; case hc => simp (config := { implicitDefEqProofs := false, maxSteps := 2000000 }) (disch := omega) only [ps, ↓reduceIte, reduceCtorEq, Int.reduceLT, Int.reduceLE, Int.reduceEq, Nat.reduceLT, Nat.reduceLeDiff, Nat.reduceEqDiff, Int.reduceNeg, qc]))
      (first | (refine Rn.t ?hc ?_; case hc => simp (config := { implicitDefEqProofs := false, maxSteps := 2000000 }) (disch := omega) only [ps, ↓reduceIte, reduceCtorEq, Int.reduceLT, Int.reduceLE, Int.reduceEq, Nat.reduceLT, Nat.reduceLeDiff, Nat.reduceEqDiff, Int.reduceNeg, qc]) | (refine Rn.f ?hc ?_; case hc => simp (config := { implicitDefEqProofs := false, maxSteps := 2000000 }) (disch := omega) only [ps, ↓reduceIte, reduceCtorEq, Int.reduceLT, Int.reduceLE, Int.reduceEq, Nat.reduceLT, Nat.reduceLeDiff, Nat.reduceEqDiff, Int.reduceNeg, qc]))
      refine Rn.bind hodd ?_
      (first | (refine Rn.t ?hc ?_; case hc => simp (config := { implicitDefEqProofs := false, maxSteps := 2000000 }) (disch := omega) only [ps, ↓reduceIte, reduceCtorEq, Int.reduceLT, Int.reduceLE, Int.reduceEq, Nat.reduceLT, Nat.reduceLeDiff, Nat.reduceEqDiff, Int.reduceNeg, qc]) | (refine Rn.f ?hc ?_; case hc => simp (config := { implicitDefEqProofs := false, maxSteps := 2000000 }) (disch := omega) only [ps, ↓reduceIte, reduceCtorEq, Int.reduceLT, Int.reduceLE, Int.reduceEq, Nat.reduceLT, Nat.reduceLeDiff, Nat.reduceEqDiff, Int.reduceNeg, qc]))
      exact Rn.bind hsg (Rn.bind c1 (Rn.bind d1' (Rn.pure _)))
  · have hv : qfH x d = x.tdiv d := if_neg hup
    rw [← hv] at a2
    refine ⟨s, q, Rn.up (f := fun k => qc9 k n0 n1 false d1) ?_, a2, by omega⟩
    show Rn (fun k => qdT k n0 n1 false d1) _
    unfold qdT
    refine Rn.bind a1 (Rn.bind hab (Rn.bind hadd (Rn.bind hcmp ?_)))
    have h1 : ¬ d < 2 * ((x.tmod d).natAbs : Int) := fun h => hup (.inl h)
    by_cases h2 : 2 * ((x.tmod d).natAbs : Int) = d
    · have h3 : ¬ x.tdiv d % 2 ≠ 0 := fun h => hup (.inr ⟨h2, h⟩)
      rw [decide_eq_false h3] at hodd
      (first | (refine Rn.t ?hc ?_; case hc => simp (config := { implicitDefEqProofs := false, maxSteps := 2000000 }) (disch := omega) only [ps, ↓reduceIte, reduceCtorEq, Int.reduceLT, Int.reduceLE, Int.reduceEq, Nat.reduceLT, Nat.reduceLeDiff, Nat.reduceEqDiff, Int.reduceNeg, qc]) | (refine Rn.f ?hc ?_; case hc => simp (config := { implicitDefEqProofs := false, maxSteps := 2000000 }) (disch := omega) only [ps, ↓reduceIte, reduceCtorEq, Int.reduceLT, Int.reduceLE, Int.reduceEq, Nat.reduceLT, Nat.reduceLeDiff, Nat.reduceEqDiff, Int.reduceNeg, qc]))
      (first | (refine Rn.t ?hc ?_; case hc => simp (config := { implicitDefEqProofs := false, maxSteps := 2000000 }) (disch := omega) only [ps, ↓reduceIte, reduceCtorEq, Int.reduceLT, Int.reduceLE, Int.reduceEq, Nat.reduceLT, Nat.reduceLeDiff, Nat.reduceEqDiff, Int.reduceNeg, qc]) | (refine Rn.f ?hc ?_; case hc => simp (config := { implicitDefEqProofs := false, maxSteps := 2000000 }) (disch := omega) only [ps, ↓reduceIte, reduceCtorEq, Int.reduceLT, Int.reduceLE, Int.reduceEq, Nat.reduceLT, Nat.reduceLeDiff, Nat.reduceEqDiff, Int.reduceNeg, qc]))
      refine Rn.bind hodd ?_
      (first | (refine Rn.t ?hc ?_; case hc => simp (config := { implicitDefEqProofs := false, maxSteps := 2000000 }) (disch := omega) only [ps, ↓reduceIte, reduceCtorEq, Int.reduceLT, Int.reduceLE, Int.reduceEq, Nat.reduceLT, Nat.reduceLeDiff, Nat.reduceEqDiff, Int.reduceNeg, qc]) | (refine Rn.f ?hc ?_; case hc => simp (config := { implicitDefEqProofs := false, maxSteps := 2000000 }) (disch := omega) only [ps, ↓reduceIte, reduceCtorEq, Int.reduceLT, Int.reduceLE, Int.reduceEq, Nat.reduceLT, Nat.reduceLeDiff, Nat.reduceEqDiff, Int.reduceNeg, qc]))
      exact Rn.pure _
    · (first | (refine Rn.t ?hc ?_; case hc => simp (config := { implicitDefEqProofs := false, maxSteps := 2000000 }) (disch := omega) only [ps, ↓reduceIte, reduceCtorEq, Int.reduceLT, Int.reduceLE, Int.reduceEq, Nat.reduceLT, Nat.reduceLeDiff, Nat.reduceEqDiff, Int.reduceNeg, qc]) | (refine Rn.f ?hc ?_; case hc => simp (config := { implicitDefEqProofs := false, maxSteps := 2000000 }) (disch := omega) only [ps, ↓reduceIte, reduceCtorEq, Int.reduceLT, Int.reduceLE, Int.reduceEq, Nat.reduceLT, Nat.reduceLeDiff, Nat.reduceEqDiff, Int.reduceNeg, qc]))
      (first | (refine Rn.t ?hc ?_; case hc => simp (config := { implicitDefEqProofs := false, maxSteps := 2000000 }) (disch := omega) only [ps, ↓reduceIte, reduceCtorEq, Int.reduceLT, Int.reduceLE, Int.reduceEq, Nat.reduceLT, Nat.reduceLeDiff, Nat.reduceEqDiff, Int.reduceNeg, qc]) | (refine Rn.f ?hc ?_; case hc => simp (config := { implicitDefEqProofs := false, maxSteps := 2000000 }) (disch := omega) only [ps, ↓reduceIte, reduceCtorEq, Int.reduceLT, Int.reduceLE, Int.reduceEq, Nat.reduceLT, Nat.reduceLeDiff, Nat.reduceEqDiff, Int.reduceNeg, qc]))
      exact Rn.pure _
theorem qwr {n0 d0 : Bool} {n1 d1 : List Int} {q : Rat} (h : Fr n0 n1 d0 d1 q) (l1 : n1.length ≤ 72) (l3 : d1.length ≤ 72) : Rn (fun k => qcY k n0 n1 d0 d1) (qew (qfH q.num q.den)) := by
  have hd := h.d0
  subst hd
  refine Rn.up (f := fun k => qcY k n0 n1 false d1) ?_
  show Rn (fun k => qhp k n0 n1 false d1) _
  unfold qhp
  have ck := qrY (show n1.length ≤ 9223372036854775807 by omega) (show d1.length ≤ 9223372036854775807 by omega) h.1.c.1 h.2.c.1 (n0 := n0) (d0 := false)
  rw [qwo h l1 l3] at ck
  refine Rn.bind ck ?_
  (first | (refine Rn.t ?hc ?_; case hc => simp (config := { implicitDefEqProofs := false, maxSteps := 2000000 }) (disch := omega) only [ps, ↓reduceIte, reduceCtorEq, Int.reduceLT, Int.reduceLE, Int.reduceEq, Nat.reduceLT, Nat.reduceLeDiff, Nat.reduceEqDiff, Int.reduceNeg, qc]) | (refine Rn.f ?hc ?_; case hc => simp (config := { implicitDefEqProofs := false, maxSteps := 2000000 }) (disch := omega) only [ps, ↓reduceIte, reduceCtorEq, Int.reduceLT, Int.reduceLE, Int.reduceEq, Nat.reduceLT, Nat.reduceLeDiff, Nat.reduceEqDiff, Int.reduceNeg, qc]))
  have t1 := qkx h.1 (by omega)
  have t3 := qkx h.2 (by omega)
  obtain ⟨s, l, e1, e2, e3⟩ := qym h.1 h.2 (by omega) (by omega) (Rat.den_pos' q)
  have g := qyl e2 (by omega)
  exact Rn.bind t1 (Rn.bind t3 (Rn.bind e1 (Rn.bind g (Rn.pure _))))
end Go.Proofs.YtbhnafdmilfobaaGreat.Am

/- qt reckoning: the least common multiple of denominators. -/
set_option linter.unusedVariables false
set_option linter.unusedSectionVars false
set_option linter.unusedSimpArgs false
set_option maxRecDepth 10000
namespace Go.Proofs.YtbhnafdmilfobaaGreat.Am
open Go

def RT.d (r : RT) : Nat := (Zv W r.2.1 r.2.2).toNat
theorem RT.pos {r : RT} (hg : r.good) (h : r.f = 0) : 0 < r.d ∧ r.2.2.length ≤ 72 ∧ Nm W r.2.1 r.2.2 (r.d : Int) := by
  obtain ⟨q, h1, h2, h3⟩ := qwn hg.1.2 hg.2.2 h
  have e : Zv W r.2.1 r.2.2 = q.den := h1.2.z
  have p := Rat.den_pos' q
  have ed : r.d = q.den := by unfold RT.d; rw [e]; rfl
  rw [ed]
  exact ⟨by omega, h3, h1.2⟩
end Go.Proofs.YtbhnafdmilfobaaGreat.Am

/- qt reckoning: the reference's fractions. -/
set_option linter.unusedVariables false
set_option linter.unusedSectionVars false
set_option linter.unusedSimpArgs false
set_option maxRecDepth 10000
namespace Go.Proofs.YtbhnafdmilfobaaGreat.Am
open Go

def FrU (n0 : Bool) (n1 : List Int) (d0 : Bool) (d1 : List Int) (q : Rat) : Prop := Nm U n0 n1 q.num ∧ Nm U d0 d1 (q.den : Int)
theorem FrU.cast {n0 : Bool} {n1 : List Int} {d0 : Bool} {d1 : List Int} {q q' : Rat} (h : FrU n0 n1 d0 d1 q) (e : q = q') : FrU n0 n1 d0 d1 q' := e ▸ h
theorem qnB {a0 : Bool} {a1 : List Int} {x : Int} (h : Nm U a0 a1 x) (h0 : x ≠ 0) : a1 ≠ [] := by
  intro e
  rw [e] at h
  have := h.z
  cases a0 <;> simp [V] at this <;> omega
theorem qf2 (n0 d0 : Bool) (n1 d1 : List Int) {x y : Int} (nx : Nm U n0 n1 x) (ny : Nm U d0 d1 y) (hx : n1.length ≤ 100000) (hy : d1.length ≤ 100000) (hy0 : y ≠ 0) :
    ∃ s p t r, Rn (fun k => qau k n0 n1 d0 d1) (s, p, t, r) ∧ FrU s p t r (Rat.divInt x y) ∧ p.length ≤ n1.length ∧ r.length ≤ d1.length := by
  have ex := qrt x hy0
  have ey := qru x hy0
  have hgp : (Int.gcd x y : Int) ≠ 0 := by
    have := Int.gcd_pos_of_ne_zero_right x hy0
    omega
  have hs := qkA d0 d1 ny
  obtain ⟨c, hc, hcc⟩ := qci y 0
  rw [hc] at hs
  by_cases hneg : y < 0
  · rw [if_pos hneg, Int.tdiv_neg, ← Int.neg_tdiv] at ex ey
    obtain ⟨s1, l1, a1, a2, a3⟩ := qht n0 n1 nx
    obtain ⟨s2, l2, b1, b2, b3⟩ := qht d0 d1 ny
    obtain ⟨g, g1, g2, g3⟩ := qoy s1 s2 l1 l2 a2 b2 (by omega) (by omega)
    have eg : (Int.gcd (-x) (-y) : Int) = Int.gcd x y := by rw [Int.gcd_neg, Int.neg_gcd]
    rw [eg] at g2
    have hgn := qnB g2 hgp
    obtain ⟨s3, q3, t3, r3, c1, c2, c3, c4, c5⟩ := qeq s1 false l1 g a2 g2 (by omega) (by omega) hgn
    obtain ⟨s4, q4, t4, r4, d1', d2, d3, d4, d5⟩ := qeq s2 false l2 g b2 g2 (by omega) (by omega) hgn
    rw [← ex] at c2
    rw [← ey] at d2
    refine ⟨s3, q3, s4, q4, Rn.up (f := fun k => qau k n0 n1 d0 d1) ?_, ⟨c2, d2⟩, by omega, by omega⟩
    show Rn (fun k => qc3 k n0 n1 d0 d1) _
    unfold qc3
    refine Rn.bind hs ?_
    (first | (refine Rn.t ?hc ?_; case hc => simp (config := { implicitDefEqProofs := false, maxSteps := 2000000 }) (disch := omega) only [ps, ↓reduceIte, reduceCtorEq, Int.reduceLT, Int.reduceLE, Int.reduceEq, Nat.reduceLT, Nat.reduceLeDiff, Nat.reduceEqDiff, Int.reduceNeg, qc]) | (refine Rn.f ?hc ?_; case hc => simp (config := { implicitDefEqProofs := false, maxSteps := 2000000 }) (disch := omega) only [ps, ↓reduceIte, reduceCtorEq, Int.reduceLT, Int.reduceLE, Int.reduceEq, Nat.reduceLT, Nat.reduceLeDiff, Nat.reduceEqDiff, Int.reduceNeg, qc]))
    exact Rn.bind a1 (Rn.bind b1 (Rn.bind g1 (Rn.bind c1 (Rn.bind d1' (Rn.pure _)))))
  · rw [if_neg hneg] at ex ey
    obtain ⟨g, g1, g2, g3⟩ := qoy n0 d0 n1 d1 nx ny (by omega) (by omega)
    have hgn := qnB g2 hgp
    obtain ⟨s3, q3, t3, r3, c1, c2, c3, c4, c5⟩ := qeq n0 false n1 g nx g2 (by omega) (by omega) hgn
    obtain ⟨s4, q4, t4, r4, d1', d2, d3, d4, d5⟩ := qeq d0 false d1 g ny g2 (by omega) (by omega) hgn
    rw [← ex] at c2
    rw [← ey] at d2
    refine ⟨s3, q3, s4, q4, Rn.up (f := fun k => qau k n0 n1 d0 d1) ?_, ⟨c2, d2⟩, by omega, by omega⟩
    show Rn (fun k => qc3 k n0 n1 d0 d1) _
    unfold qc3
    refine Rn.bind hs ?_
    (first | (refine Rn.t ?hc ?_; case hc => simp (config := { implicitDefEqProofs := false, maxSteps := 2000000 }) (disch := omega) only [ps, ↓reduceIte, reduceCtorEq, Int.reduceLT, Int.reduceLE, Int.reduceEq, Nat.reduceLT, Nat.reduceLeDiff, Nat.reduceEqDiff, Int.reduceNeg, qc]) | (refine Rn.f ?hc ?_; case hc => simp (config := { implicitDefEqProofs := false, maxSteps := 2000000 }) (disch := omega) only [ps, ↓reduceIte, reduceCtorEq, Int.reduceLT, Int.reduceLE, Int.reduceEq, Nat.reduceLT, Nat.reduceLeDiff, Nat.reduceEqDiff, Int.reduceNeg, qc]))
    exact Rn.bind g1 (Rn.bind c1 (Rn.bind d1' (Rn.pure _)))
theorem qry (a0 : Bool) (a1 : List Int) : Rn (fun k => qaj k a0 a1) (false, a1) := Rn.up (f := fun k => qaj k a0 a1) (Rn.pure _)
theorem qws {a0 a2 : Bool} {a1 a3 : List Int} {x d : Int} (nx : Nm U a0 a1 x) (nd : Nm U a2 a3 d) (h0 : 0 < d) (h1 : a1.length ≤ 1000) (h3 : a3.length ≤ 1000) :
    ∃ s l, Rn (fun k => qbB k a0 a1 a2 a3) (s, l) ∧ Nm U s l (qfH x d) ∧ l.length ≤ a1.length + 5 := by
  obtain ⟨two, t1, t2, t3⟩ := qep 2 (by decide)
  obtain ⟨one, o1, o2, o3⟩ := qep 1 (by decide)
  obtain ⟨s, q, t, r, q1, q2, q3, q4, q5⟩ := qeq a0 a2 a1 a3 nx nd (by omega) (by omega) (qnB nd (by omega))
  have hr0 : Nm U false r ((x.tmod d).natAbs : Int) := qfP q3.c (q3.abs (by decide))
  obtain ⟨s2, w, w1, w2, w3⟩ := qda false _ r two hr0 t2 (by omega) (by omega)
  have hh := qoi s2 a2 w a3 w2 nd (by omega) (by omega)
  obtain ⟨c, hc, hcc⟩ := qci (((x.tmod d).natAbs : Int) * 2) d
  rw [hc] at hh
  obtain ⟨s3, q', t4, odd, e1, e2, e3, e4, e5⟩ := qeq s _ q two q2 t2 (by omega) (by omega) (qnB t2 (by decide))
  have hso := qkA t4 odd e3
  obtain ⟨co, hco, hcoo⟩ := qci ((x.tdiv d).tmod 2) 0
  rw [hco] at hso
  have hsx := qkA a0 a1 nx
  obtain ⟨cx, hcx, hcxx⟩ := qci x 0
  rw [hcx] at hsx
  obtain ⟨s5, l5, f1, f2, f3⟩ := qsn s _ q one q2 o2 (by omega) (by omega)
  obtain ⟨s6, l6, g1, g2, g3⟩ := qoh s _ q one q2 o2 (by omega) (by omega)
  have hodd : (x.tdiv d).tmod 2 = 0 ↔ x.tdiv d % 2 = 0 := by
    constructor
    · intro h; exact Int.emod_eq_zero_of_dvd (Int.dvd_of_tmod_eq_zero h)
    · intro h; exact Int.tmod_eq_zero_of_dvd (Int.dvd_of_emod_eq_zero h)
  by_cases hup : d < 2 * ((x.tmod d).natAbs : Int) ∨ (2 * ((x.tmod d).natAbs : Int) = d ∧ x.tdiv d % 2 ≠ 0)
  · have hx0 : x ≠ 0 := by
      rintro rfl
      simp at hup
      omega
    have hv : qfH x d = x.tdiv d + x.sign := if_pos hup
    by_cases hxn : x < 0
    · rw [Int.sign_eq_neg_one_of_neg hxn] at hv
      refine ⟨s5, l5, Rn.up (f := fun k => qbB k a0 a1 a2 a3) ?_, f2.cast (by omega), by omega⟩
      show Rn (fun k => qb1 k a0 a1 a2 a3) _
      unfold qb1
      refine Rn.bind t1 (Rn.bind q1 (Rn.bind (qry t r) (Rn.bind w1 (Rn.bind hh (Rn.bind e1 ?_)))))
      by_cases h1 : d < 2 * ((x.tmod d).natAbs : Int)
      · (first | (refine Rn.t ?hc ?_; case hc => simp (config := { implicitDefEqProofs := false, maxSteps := 2000000 }) (disch := omega) only [ps, ↓reduceIte, reduceCtorEq, Int.reduceLT, Int.reduceLE, Int.reduceEq, Nat.reduceLT, Nat.reduceLeDiff, Nat.reduceEqDiff, Int.reduceNeg, qc]) | (refine Rn.f ?hc ?_; case hc => simp (config := { implicitDefEqProofs := false, maxSteps := 2000000 }) (disch := omega) only [ps, ↓reduceIte, reduceCtorEq, Int.reduceLT, Int.reduceLE, Int.reduceEq, Nat.reduceLT, Nat.reduceLeDiff, Nat.reduceEqDiff, Int.reduceNeg, qc]))
        refine Rn.bind hsx ?_
        (first | (refine Rn.t ?hc ?_; case hc => simp (config := { implicitDefEqProofs := false, maxSteps := 2000000 }) (disch := omega) only [ps, ↓reduceIte, reduceCtorEq, Int.reduceLT, Int.reduceLE, Int.reduceEq, Nat.reduceLT, Nat.reduceLeDiff, Nat.reduceEqDiff, Int.reduceNeg, qc]) | (refine Rn.f ?hc ?_; case hc => simp (config := { implicitDefEqProofs := false, maxSteps := 2000000 }) (disch := omega) only [ps, ↓reduceIte, reduceCtorEq, Int.reduceLT, Int.reduceLE, Int.reduceEq, Nat.reduceLT, Nat.reduceLeDiff, Nat.reduceEqDiff, Int.reduceNeg, qc]))
        exact Rn.bind o1 (Rn.bind f1 (Rn.pure _))
      · have h2 : 2 * ((x.tmod d).natAbs : Int) = d ∧ x.tdiv d % 2 ≠ 0 := hup.resolve_left h1
        have h3 : (x.tdiv d).tmod 2 ≠ 0 := fun h => h2.2 (hodd.1 h)
        (first | (refine Rn.t ?hc ?_; case hc => simp (config := { implicitDefEqProofs := false, maxSteps := 2000000 }) (disch := omega) only [ps, ↓reduceIte, reduceCtorEq, Int.reduceLT, Int.reduceLE, Int.reduceEq, Nat.reduceLT, Nat.reduceLeDiff, Nat.reduceEqDiff, Int.reduceNeg, qc]) | (refine Rn.f ?hc ?_; case hc => simp (config := { implicitDefEqProofs := false, maxSteps := 2000000 }) (disch := omega) only [ps, ↓reduceIte, reduceCtorEq, Int.reduceLT, Int.reduceLE, Int.reduceEq, Nat.reduceLT, Nat.reduceLeDiff, Nat.reduceEqDiff, Int.reduceNeg, qc]))
        (first | (refine Rn.t ?hc ?_; case hc => simp (config := { implicitDefEqProofs := false, maxSteps := 2000000 }) (disch := omega) only [ps, ↓reduceIte, reduceCtorEq, Int.reduceLT, Int.reduceLE, Int.reduceEq, Nat.reduceLT, Nat.reduceLeDiff, Nat.reduceEqDiff, Int.reduceNeg, qc]) | (refine Rn.f ?hc ?_; case hc => simp (config := { implicitDefEqProofs := false, maxSteps := 2000000 }) (disch := omega) only [ps, ↓reduceIte, reduceCtorEq, Int.reduceLT, Int.reduceLE, Int.reduceEq, Nat.reduceLT, Nat.reduceLeDiff, Nat.reduceEqDiff, Int.reduceNeg, qc]))
        refine Rn.bind hso ?_
        (first | (refine Rn.t ?hc ?_; case hc => simp (config := { implicitDefEqProofs := false, maxSteps := 2000000 }) (disch := omega) only [ps, ↓reduceIte, reduceCtorEq, Int.reduceLT, Int.reduceLE, Int.reduceEq, Nat.reduceLT, Nat.reduceLeDiff, Nat.reduceEqDiff, Int.reduceNeg, qc]) | (refine Rn.f ?hc ?_; case hc => simp (config := { implicitDefEqProofs := false, maxSteps := 2000000 }) (disch := omega) only [ps, ↓reduceIte, reduceCtorEq, Int.reduceLT, Int.reduceLE, Int.reduceEq, Nat.reduceLT, Nat.reduceLeDiff, Nat.reduceEqDiff, Int.reduceNeg, qc]))
        refine Rn.bind hsx ?_
        (first | (refine Rn.t ?hc ?_; case hc => simp (config := { implicitDefEqProofs := false, maxSteps := 2000000 }) (disch := omega) only [ps, ↓reduceIte, reduceCtorEq, Int.reduceLT, Int.reduceLE, Int.reduceEq, Nat.reduceLT, Nat.reduceLeDiff, Nat.reduceEqDiff, Int.reduceNeg, qc]) | (refine Rn.f ?hc ?_; case hc => simp (config := { implicitDefEqProofs := false, maxSteps := 2000000 }) (disch := omega) only [ps, ↓reduceIte, reduceCtorEq, Int.reduceLT, Int.reduceLE, Int.reduceEq, Nat.reduceLT, Nat.reduceLeDiff, Nat.reduceEqDiff, Int.reduceNeg, qc]))
        exact Rn.bind o1 (Rn.bind f1 (Rn.pure _))
    · rw [Int.sign_eq_one_of_pos (by omega)] at hv
      refine ⟨s6, l6, Rn.up (f := fun k => qbB k a0 a1 a2 a3) ?_, g2.cast (by omega), by omega⟩
      show Rn (fun k => qb1 k a0 a1 a2 a3) _
      unfold qb1
      refine Rn.bind t1 (Rn.bind q1 (Rn.bind (qry t r) (Rn.bind w1 (Rn.bind hh (Rn.bind e1 ?_)))))
      by_cases h1 : d < 2 * ((x.tmod d).natAbs : Int)
      · (first | (refine Rn.t ?hc ?_; case hc => simp (config := { implicitDefEqProofs := false, maxSteps := 2000000 }) (disch := omega) only [ps, ↓reduceIte, reduceCtorEq, Int.reduceLT, Int.reduceLE, Int.reduceEq, Nat.reduceLT, Nat.reduceLeDiff, Nat.reduceEqDiff, Int.reduceNeg, qc]) | (refine Rn.f ?hc ?_; case hc => simp (config := { implicitDefEqProofs := false, maxSteps := 2000000 }) (disch := omega) only [ps, ↓reduceIte, reduceCtorEq, Int.reduceLT, Int.reduceLE, Int.reduceEq, Nat.reduceLT, Nat.reduceLeDiff, Nat.reduceEqDiff, Int.reduceNeg, qc]))
        refine Rn.bind hsx ?_
        (first | (refine Rn.t ?hc ?_; case hc => simp (config := { implicitDefEqProofs := false, maxSteps := 2000000 }) (disch := omega) only [ps, ↓reduceIte, reduceCtorEq, Int.reduceLT, Int.reduceLE, Int.reduceEq, Nat.reduceLT, Nat.reduceLeDiff, Nat.reduceEqDiff, Int.reduceNeg, qc]) | (refine Rn.f ?hc ?_; case hc => simp (config := { implicitDefEqProofs := false, maxSteps := 2000000 }) (disch := omega) only [ps, ↓reduceIte, reduceCtorEq, Int.reduceLT, Int.reduceLE, Int.reduceEq, Nat.reduceLT, Nat.reduceLeDiff, Nat.reduceEqDiff, Int.reduceNeg, qc]))
        exact Rn.bind o1 (Rn.bind g1 (Rn.pure _))
      · have h2 : 2 * ((x.tmod d).natAbs : Int) = d ∧ x.tdiv d % 2 ≠ 0 := hup.resolve_left h1
        have h3 : (x.tdiv d).tmod 2 ≠ 0 := fun h => h2.2 (hodd.1 h)
        (first | (refine Rn.t ?hc ?_; case hc => simp (config := { implicitDefEqProofs := false, maxSteps := 2000000 }) (disch := omega) only [ps, ↓reduceIte, reduceCtorEq, Int.reduceLT, Int.reduceLE, Int.reduceEq, Nat.reduceLT, Nat.reduceLeDiff, Nat.reduceEqDiff, Int.reduceNeg, qc]) | (refine Rn.f ?hc ?_; case hc => simp (config := { implicitDefEqProofs := false, maxSteps := 2000000 }) (disch := omega) only [ps, ↓reduceIte, reduceCtorEq, Int.reduceLT, Int.reduceLE, Int.reduceEq, Nat.reduceLT, Nat.reduceLeDiff, Nat.reduceEqDiff, Int.reduceNeg, qc]))
        (first | (refine Rn.t ?hc ?_; case hc => simp (config := { implicitDefEqProofs := false, maxSteps := 2000000 }) (disch := omega) only [ps, ↓reduceIte, reduceCtorEq, Int.reduceLT, Int.reduceLE, Int.reduceEq, Nat.reduceLT, Nat.reduceLeDiff, Nat.reduceEqDiff, Int.reduceNeg, qc]) | (refine Rn.f ?hc ?_; case hc => simp (config := { implicitDefEqProofs := false, maxSteps := 2000000 }) (disch := omega) only [ps, ↓reduceIte, reduceCtorEq, Int.reduceLT, Int.reduceLE, Int.reduceEq, Nat.reduceLT, Nat.reduceLeDiff, Nat.reduceEqDiff, Int.reduceNeg, qc]))
        refine Rn.bind hso ?_
        (first | (refine Rn.t ?hc ?_; case hc => simp (config := { implicitDefEqProofs := false, maxSteps := 2000000 }) (disch := omega) only [ps, ↓reduceIte, reduceCtorEq, Int.reduceLT, Int.reduceLE, Int.reduceEq, Nat.reduceLT, Nat.reduceLeDiff, Nat.reduceEqDiff, Int.reduceNeg, qc]) | (refine Rn.f ?hc ?_; case hc => simp (config := { implicitDefEqProofs := false, maxSteps := 2000000 }) (disch := omega) only [ps, ↓reduceIte, reduceCtorEq, Int.reduceLT, Int.reduceLE, Int.reduceEq, Nat.reduceLT, Nat.reduceLeDiff, Nat.reduceEqDiff, Int.reduceNeg, qc]))
        refine Rn.bind hsx ?_
        (first | (refine Rn.t ?hc ?_; case hc => simp (config := { implicitDefEqProofs := false, maxSteps := 2000000 }) (disch := omega) only [ps, ↓reduceIte, reduceCtorEq, Int.reduceLT, Int.reduceLE, Int.reduceEq, Nat.reduceLT, Nat.reduceLeDiff, Nat.reduceEqDiff, Int.reduceNeg, qc]) | (refine Rn.f ?hc ?_; case hc => simp (config := { implicitDefEqProofs := false, maxSteps := 2000000 }) (disch := omega) only [ps, ↓reduceIte, reduceCtorEq, Int.reduceLT, Int.reduceLE, Int.reduceEq, Nat.reduceLT, Nat.reduceLeDiff, Nat.reduceEqDiff, Int.reduceNeg, qc]))
        exact Rn.bind o1 (Rn.bind g1 (Rn.pure _))
  · have hv : qfH x d = x.tdiv d := if_neg hup
    refine ⟨s, q, Rn.up (f := fun k => qbB k a0 a1 a2 a3) ?_, q2.cast hv.symm, by omega⟩
    show Rn (fun k => qb1 k a0 a1 a2 a3) _
    unfold qb1
    refine Rn.bind t1 (Rn.bind q1 (Rn.bind (qry t r) (Rn.bind w1 (Rn.bind hh (Rn.bind e1 ?_)))))
    have h1 : ¬ d < 2 * ((x.tmod d).natAbs : Int) := fun h => hup (.inl h)
    by_cases h2 : 2 * ((x.tmod d).natAbs : Int) = d
    · have h3 : (x.tdiv d).tmod 2 = 0 := hodd.2 (by
        rcases Int.emod_two_eq (x.tdiv d) with h | h
        · exact h
        · exact absurd (.inr ⟨h2, by omega⟩) hup)
      (first | (refine Rn.t ?hc ?_; case hc => simp (config := { implicitDefEqProofs := false, maxSteps := 2000000 }) (disch := omega) only [ps, ↓reduceIte, reduceCtorEq, Int.reduceLT, Int.reduceLE, Int.reduceEq, Nat.reduceLT, Nat.reduceLeDiff, Nat.reduceEqDiff, Int.reduceNeg, qc]) | (refine Rn.f ?hc ?_; case hc => simp (config := { implicitDefEqProofs := false, maxSteps := 2000000 }) (disch := omega) only [ps, ↓reduceIte, reduceCtorEq, Int.reduceLT, Int.reduceLE, Int.reduceEq, Nat.reduceLT, Nat.reduceLeDiff, Nat.reduceEqDiff, Int.reduceNeg, qc]))
      (first | (refine Rn.t ?hc ?_; case hc => simp (config := { implicitDefEqProofs := false, maxSteps := 2000000 }) (disch := omega) only [ps, ↓reduceIte, reduceCtorEq, Int.reduceLT, Int.reduceLE, Int.reduceEq, Nat.reduceLT, Nat.reduceLeDiff, Nat.reduceEqDiff, Int.reduceNeg, qc]) | (refine Rn.f ?hc ?_; case hc => simp (config := { implicitDefEqProofs := false, maxSteps := 2000000 }) (disch := omega) only [ps, ↓reduceIte, reduceCtorEq, Int.reduceLT, Int.reduceLE, Int.reduceEq, Nat.reduceLT, Nat.reduceLeDiff, Nat.reduceEqDiff, Int.reduceNeg, qc]))
      refine Rn.bind hso ?_
      (first | (refine Rn.t ?hc ?_; case hc => simp (config := { implicitDefEqProofs := false, maxSteps := 2000000 }) (disch := omega) only [ps, ↓reduceIte, reduceCtorEq, Int.reduceLT, Int.reduceLE, Int.reduceEq, Nat.reduceLT, Nat.reduceLeDiff, Nat.reduceEqDiff, Int.reduceNeg, qc]) | (refine Rn.f ?hc ?_; case hc => simp (config := { implicitDefEqProofs := false, maxSteps := 2000000 }) (disch := omega) only [ps, ↓reduceIte, reduceCtorEq, Int.reduceLT, Int.reduceLE, Int.reduceEq, Nat.reduceLT, Nat.reduceLeDiff, Nat.reduceEqDiff, Int.reduceNeg, qc]))
      exact Rn.pure _
    · (first | (refine Rn.t ?hc ?_; case hc => simp (config := { implicitDefEqProofs := false, maxSteps := 2000000 }) (disch := omega) only [ps, ↓reduceIte, reduceCtorEq, Int.reduceLT, Int.reduceLE, Int.reduceEq, Nat.reduceLT, Nat.reduceLeDiff, Nat.reduceEqDiff, Int.reduceNeg, qc]) | (refine Rn.f ?hc ?_; case hc => simp (config := { implicitDefEqProofs := false, maxSteps := 2000000 }) (disch := omega) only [ps, ↓reduceIte, reduceCtorEq, Int.reduceLT, Int.reduceLE, Int.reduceEq, Nat.reduceLT, Nat.reduceLeDiff, Nat.reduceEqDiff, Int.reduceNeg, qc]))
      (first | (refine Rn.t ?hc ?_; case hc => simp (config := { implicitDefEqProofs := false, maxSteps := 2000000 }) (disch := omega) only [ps, ↓reduceIte, reduceCtorEq, Int.reduceLT, Int.reduceLE, Int.reduceEq, Nat.reduceLT, Nat.reduceLeDiff, Nat.reduceEqDiff, Int.reduceNeg, qc]) | (refine Rn.f ?hc ?_; case hc => simp (config := { implicitDefEqProofs := false, maxSteps := 2000000 }) (disch := omega) only [ps, ↓reduceIte, reduceCtorEq, Int.reduceLT, Int.reduceLE, Int.reduceEq, Nat.reduceLT, Nat.reduceLeDiff, Nat.reduceEqDiff, Int.reduceNeg, qc]))
      exact Rn.pure _
theorem qwt {a0 a2 : Bool} {a1 a3 : List Int} {x d : Int} (nx : Nm U a0 a1 x) (nd : Nm U a2 a3 d) (h0 : 0 < d) (h1 : a1.length ≤ 900) (h3 : a3.length ≤ 900) : Rn (fun k => qcP k a0 a1 a2 a3) (qew (qfH x d)) := by
  obtain ⟨s, l, e1, e2, e3⟩ := qws nx nd h0 (by omega) (by omega)
  have hw := quH s l (by omega) e2
  refine Rn.up (f := fun k => qcP k a0 a1 a2 a3) ?_
  show Rn (fun k => qe5 k a0 a1 a2 a3) _
  unfold qe5
  refine Rn.bind e1 (Rn.bind hw ?_)
  generalize qfH x d = v
  by_cases hok : -9223372036854775808 ≤ v ∧ v ≤ 9223372036854775807
  · rw [if_pos hok]
    (first | (refine Rn.t ?hc ?_; case hc => simp (config := { implicitDefEqProofs := false, maxSteps := 2000000 }) (disch := omega) only [ps, ↓reduceIte, reduceCtorEq, Int.reduceLT, Int.reduceLE, Int.reduceEq, Nat.reduceLT, Nat.reduceLeDiff, Nat.reduceEqDiff, Int.reduceNeg, qc]) | (refine Rn.f ?hc ?_; case hc => simp (config := { implicitDefEqProofs := false, maxSteps := 2000000 }) (disch := omega) only [ps, ↓reduceIte, reduceCtorEq, Int.reduceLT, Int.reduceLE, Int.reduceEq, Nat.reduceLT, Nat.reduceLeDiff, Nat.reduceEqDiff, Int.reduceNeg, qc]))
    by_cases h4 : v ≤ 1000000000000000000
    · by_cases h5 : -1000000000000000000 ≤ v
      · have e : qew v = (v, 0) := if_pos ⟨h5, h4⟩
        rw [e]
        (first | (refine Rn.t ?hc ?_; case hc => simp (config := { implicitDefEqProofs := false, maxSteps := 2000000 }) (disch := omega) only [ps, ↓reduceIte, reduceCtorEq, Int.reduceLT, Int.reduceLE, Int.reduceEq, Nat.reduceLT, Nat.reduceLeDiff, Nat.reduceEqDiff, Int.reduceNeg, qc]) | (refine Rn.f ?hc ?_; case hc => simp (config := { implicitDefEqProofs := false, maxSteps := 2000000 }) (disch := omega) only [ps, ↓reduceIte, reduceCtorEq, Int.reduceLT, Int.reduceLE, Int.reduceEq, Nat.reduceLT, Nat.reduceLeDiff, Nat.reduceEqDiff, Int.reduceNeg, qc]))
        (first | (refine Rn.t ?hc ?_; case hc => simp (config := { implicitDefEqProofs := false, maxSteps := 2000000 }) (disch := omega) only [ps, ↓reduceIte, reduceCtorEq, Int.reduceLT, Int.reduceLE, Int.reduceEq, Nat.reduceLT, Nat.reduceLeDiff, Nat.reduceEqDiff, Int.reduceNeg, qc]) | (refine Rn.f ?hc ?_; case hc => simp (config := { implicitDefEqProofs := false, maxSteps := 2000000 }) (disch := omega) only [ps, ↓reduceIte, reduceCtorEq, Int.reduceLT, Int.reduceLE, Int.reduceEq, Nat.reduceLT, Nat.reduceLeDiff, Nat.reduceEqDiff, Int.reduceNeg, qc]))
        exact Rn.pure _
      · have e : qew v = (0, 4) := if_neg (fun c => h5 c.1)
        rw [e]
        (first | (refine Rn.t ?hc ?_; case hc => simp (config := { implicitDefEqProofs := false, maxSteps := 2000000 }) (disch := omega) only [ps, ↓reduceIte, reduceCtorEq, Int.reduceLT, Int.reduceLE, Int.reduceEq, Nat.reduceLT, Nat.reduceLeDiff, Nat.reduceEqDiff, Int.reduceNeg, qc]) | (refine Rn.f ?hc ?_; case hc => simp (config := { implicitDefEqProofs := false, maxSteps := 2000000 }) (disch := omega) only [ps, ↓reduceIte, reduceCtorEq, Int.reduceLT, Int.reduceLE, Int.reduceEq, Nat.reduceLT, Nat.reduceLeDiff, Nat.reduceEqDiff, Int.reduceNeg, qc]))
        (first | (refine Rn.t ?hc ?_; case hc => simp (config := { implicitDefEqProofs := false, maxSteps := 2000000 }) (disch := omega) only [ps, ↓reduceIte, reduceCtorEq, Int.reduceLT, Int.reduceLE, Int.reduceEq, Nat.reduceLT, Nat.reduceLeDiff, Nat.reduceEqDiff, Int.reduceNeg, qc]) | (refine Rn.f ?hc ?_; case hc => simp (config := { implicitDefEqProofs := false, maxSteps := 2000000 }) (disch := omega) only [ps, ↓reduceIte, reduceCtorEq, Int.reduceLT, Int.reduceLE, Int.reduceEq, Nat.reduceLT, Nat.reduceLeDiff, Nat.reduceEqDiff, Int.reduceNeg, qc]))
        exact Rn.pure _
    · have e : qew v = (0, 4) := if_neg (fun c => h4 c.2)
      rw [e]
      (first | (refine Rn.t ?hc ?_; case hc => simp (config := { implicitDefEqProofs := false, maxSteps := 2000000 }) (disch := omega) only [ps, ↓reduceIte, reduceCtorEq, Int.reduceLT, Int.reduceLE, Int.reduceEq, Nat.reduceLT, Nat.reduceLeDiff, Nat.reduceEqDiff, Int.reduceNeg, qc]) | (refine Rn.f ?hc ?_; case hc => simp (config := { implicitDefEqProofs := false, maxSteps := 2000000 }) (disch := omega) only [ps, ↓reduceIte, reduceCtorEq, Int.reduceLT, Int.reduceLE, Int.reduceEq, Nat.reduceLT, Nat.reduceLeDiff, Nat.reduceEqDiff, Int.reduceNeg, qc]))
      exact Rn.pure _
  · have e : qew v = (0, 4) := if_neg (by omega)
    rw [if_neg hok, e]
    (first | (refine Rn.t ?hc ?_; case hc => simp (config := { implicitDefEqProofs := false, maxSteps := 2000000 }) (disch := omega) only [ps, ↓reduceIte, reduceCtorEq, Int.reduceLT, Int.reduceLE, Int.reduceEq, Nat.reduceLT, Nat.reduceLeDiff, Nat.reduceEqDiff, Int.reduceNeg, qc]) | (refine Rn.f ?hc ?_; case hc => simp (config := { implicitDefEqProofs := false, maxSteps := 2000000 }) (disch := omega) only [ps, ↓reduceIte, reduceCtorEq, Int.reduceLT, Int.reduceLE, Int.reduceEq, Nat.reduceLT, Nat.reduceLeDiff, Nat.reduceEqDiff, Int.reduceNeg, qc]))
    exact Rn.pure _
section
variable {n0 d0 : Bool} {n1 d1 : List Int} (la : n1.length ≤ 9223372036854775807) (lb : d1.length ≤ 9223372036854775807) (da : Dg W n1) (db : Dg W d1)
include la lb da db
end
end Go.Proofs.YtbhnafdmilfobaaGreat.Am

/- qt reckoning: decimal numbers, and fractions written over their first argument. -/
set_option linter.unusedVariables false
set_option linter.unusedSectionVars false
set_option linter.unusedSimpArgs false
set_option maxRecDepth 10000
namespace Go.Proofs.YtbhnafdmilfobaaGreat.Am
open Go

def okN (m e : Int) : Bool := decide (m = 0 ∧ e = 0 ∨ m.tmod 10 ≠ 0 ∧ -999999999 ≤ m ∧ m ≤ 999999999 ∧ -18 ≤ e ∧ e ≤ 9)
theorem qsp {m e : Int} : okN m e = true ↔ (m = 0 ∧ e = 0 ∨ m.tmod 10 ≠ 0 ∧ -999999999 ≤ m ∧ m ≤ 999999999 ∧ -18 ≤ e ∧ e ≤ 9) := by unfold okN; exact decide_eq_true_iff
theorem qsq {m e : Int} (h : okN m e = true) : -999999999 ≤ m ∧ m ≤ 999999999 ∧ -18 ≤ e ∧ e ≤ 9 := by
  rcases qsp.1 h with h | h <;> omega
theorem quI (m e : Int) (b : Bool) (h : b = true ↔ (m = 0 ∧ e = 0 ∨ m.tmod 10 ≠ 0 ∧ -999999999 ≤ m ∧ m ≤ 999999999 ∧ -18 ≤ e ∧ e ≤ 9)) : b = okN m e := Bool.eq_iff_iff.2 (h.trans qsp.symm)
theorem qgC (m e : Int) : Rn (fun k => qdP k m e) (okN m e) := by
  refine Rn.up (f := fun k => qdP k m e) (Rn.eq 0 fun k _ => ?_)
  show qhh k m e = _
  unfold qhh
  have t : m = 0 → m.tmod 10 = 0 := fun h => by rw [h]; rfl
  simp only [beq_iff_eq, decide_eq_true_eq, bne_iff_ne, ne_eq]
  repeat' split
  all_goals refine congrArg some (quI m e _ ?_)
  all_goals simp only [beq_iff_eq, decide_eq_true_eq, Bool.false_eq_true, false_iff]
  all_goals grind
theorem qkN (m e : Int) : Rn (fun k => qck k m e) (okN m e) := by
  refine Rn.up (f := fun k => qck k m e) (Rn.eq 0 fun k _ => ?_)
  show qez k m e = _
  unfold qez
  have t : m = 0 → m.tmod 10 = 0 := fun h => by rw [h]; rfl
  simp only [beq_iff_eq, decide_eq_true_eq, bne_iff_ne, ne_eq, beq_eq_false_iff_ne]
  repeat' split
  all_goals refine congrArg some (quI m e _ ?_)
  all_goals simp only [beq_iff_eq, decide_eq_true_eq, Bool.false_eq_true, false_iff]
  all_goals grind

def qfA (m e : Int) : Rat := if e < 0 then Rat.divInt m ((10 ^ (-e).toNat : Nat) : Int) else Rat.divInt (((10 ^ e.toNat : Nat) : Int) * m) 1
theorem quJ {s : Bool} {l : List Int} {x : Int} (h : Nm W s l x) (n : Nat) (hx : (x.natAbs : Int) < W ^ n) : l.length ≤ n :=
  (h.c.len_le (B := W) (by decide) n).2 (by rw [h.abs (B := W) (by decide)]; exact hx)
theorem W2 : (W ^ 2 : Int) = 18446744073709551616 := by decide
theorem Rl.t {α : Type} {c : Prop} [Decidable c] {f g : Nat → Nat → Option α} {r : α} (h : c) (hf : Rl f r) : Rl (fun k n => if c then f k n else g k n) r := by
  simpa only [if_pos h] using hf
theorem Rl.f {α : Type} {c : Prop} [Decidable c] {f g : Nat → Nat → Option α} {r : α} (h : ¬ c) (hg : Rl g r) : Rl (fun k n => if c then f k n else g k n) r := by
  simpa only [if_neg h] using hg
theorem Rl.at {α β : Type} {o : Option α} {g : Nat → Nat → α → Option β} {x : α} {r : β} (h : o = some x) (hg : Rl (fun k n => g k n x) r) : Rl (fun k n => Option.bind o (g k n)) r := by
  simpa only [h, Option.bind_some] using hg
theorem qwu (c : Int) (hc : c ≤ 20) {t : Bool} {u : List Int} (nu : Nm W t u 10) (hu : u.length ≤ 2) : ∀ (n : Nat) (i : Int) (s : Bool) (z : List Int) (p : Int), 0 ≤ i → i + n = c → Nm W s z p → (z.length : Int) ≤ 100 + 2 * i →
    ∃ s' z', Rl (fun k m => qcR k m c i s z t u) (s', z', t, u) ∧ Nm W s' z' (p * ((10 ^ n : Nat) : Int)) ∧ z'.length ≤ 200 := by
  intro n
  induction n with
  | zero =>
    intro i s z p h0 hi nz hz
    refine ⟨s, z, Rl.up (f := fun k m => qcR k m c i s z t u) (Rl.of 0 fun k m _ => ?_), nz.cast (by simp), by omega⟩
    show qeJ k (qcR k m) c i s z t u = _
    unfold qeJ
    exact if_neg (by simp; omega)
  | succ n ih =>
    intro i s z p h0 hi nz hz
    obtain ⟨s1, p1, a1, a2, a3⟩ := qsk s t z u nz nu (by omega) (by omega)
    obtain ⟨s', z', b1, b2, b3⟩ := ih (i + 1) s1 p1 (p * 10) (by omega) (by omega) a2 (by omega)
    refine ⟨s', z', Rl.up (f := fun k m => qcR k m c i s z t u) ?_, b2.cast (by rw [Nat.pow_succ]; grind), b3⟩
    show Rl (fun k m => qeJ k (qcR k m) c i s z t u) _
    unfold qeJ
    refine Rl.t (decide_eq_true (by omega)) (Rl.bind a1 ?_)
    rw [qj (by omega)]
    exact b1
theorem qBX (c : Int) (h : 0 ≤ c ∧ c ≤ 18) : ∃ s z, Rn (fun k => qfw k c) (s, z) ∧ Nm W s z ((10 ^ c.toNat : Nat) : Int) ∧ z.length ≤ 2 := by
  obtain ⟨l, a1, a2, a3⟩ := qen 1 (by omega)
  obtain ⟨u, b1, b2, b3⟩ := qen 10 (by omega)
  obtain ⟨s, z, c1, c2, c3⟩ := qwu c (by omega) b2 b3 c.toNat 0 _ l 1 (by omega) (by omega) a2 (by omega)
  have hp : (10 ^ c.toNat : Nat) ≤ 10 ^ 18 := Nat.pow_le_pow_right (by decide) (by omega)
  have e18 : (10 ^ 18 : Nat) = 1000000000000000000 := by decide
  refine ⟨s, z, Rn.up (f := fun k => qfw k c) (Rn.bind a1 (Rn.bind b1 (Rn.bind c1.diag (Rn.pure _)))), c2.cast (by simp), quJ c2 2 (by rw [W2, Int.one_mul, Int.natAbs_natCast]; omega)⟩
theorem qoA (n : Nat) : (0 : Int) < ((10 ^ n : Nat) : Int) := by have := Nat.pow_pos (a := 10) (n := n) (by decide); omega
theorem quK {m e : Int} (h : okN m e = true) : ∃ s p t r, Rn (fun k => qeg k m e) (s, p, t, r) ∧ Fr s p t r (qfA m e) ∧ p.length ≤ 2 ∧ r.length ≤ 2 := by
  have hr := qsq h
  have hw : IntKind.i64.wrap (0 - e) = -e := by rw [qj (by omega)]; omega
  have hm : (if e < 0 then -e else e) = max e (-e) := by omega
  obtain ⟨s1, z1, a1, a2, a3⟩ := qBX (max e (-e)) (by omega)
  obtain ⟨l, b1, b2, b3⟩ := qen m (by omega)
  have hpos := qoA (max e (-e)).toNat
  by_cases he : e < 0
  · have e1 : max e (-e) = -e := by omega
    rw [e1] at a1 a2 hpos
    obtain ⟨s, p, t, r, c1, c2, c3, c4⟩ := qkz _ _ l z1 b2 a2 (by omega) (by omega) (by omega)
    refine ⟨s, p, t, r, Rn.up (f := fun k => qeg k m e) ?_, c2.cast (by rw [qfA, if_pos he]), by omega, by omega⟩
    show Rn (fun k => qfO k m e) _
    unfold qfO
    rw [hw, e1]
    refine Rn.bind a1 (Rn.t (decide_eq_true (by omega)) (Rn.bind b1 (Rn.bind c1 (Rn.pure _))))
  · have e1 : max e (-e) = e := by omega
    rw [e1] at a1 a2 hpos
    obtain ⟨s2, p2, d1, d2, d3⟩ := qsk s1 _ z1 l a2 b2 (by omega) (by omega)
    obtain ⟨o, o1, o2, o3⟩ := qen 1 (by omega)
    have hp : (10 ^ e.toNat : Nat) ≤ 10 ^ 9 := Nat.pow_le_pow_right (by decide) (by omega)
    have e9 : (10 ^ 9 : Nat) = 1000000000 := by decide
    have hlen : p2.length ≤ 2 := quJ d2 2 (by
      rw [W2, Int.natAbs_mul]
      have h1 : ((10 ^ e.toNat : Nat) : Int).natAbs ≤ 1000000000 := by omega
      have h2 : m.natAbs ≤ 1000000000 := by omega
      have := Nat.mul_le_mul h1 h2
      omega)
    obtain ⟨s, p, t, r, c1, c2, c3, c4⟩ := qkz _ _ p2 o d2 o2 (by omega) (by omega) (by omega)
    refine ⟨s, p, t, r, Rn.up (f := fun k => qeg k m e) ?_, c2.cast (by rw [qfA, if_neg he]), by omega, by omega⟩
    show Rn (fun k => qfO k m e) _
    unfold qfO
    rw [hw, e1]
    refine Rn.bind a1 (Rn.f (by rw [decide_eq_true_eq]; omega) (Rn.bind b1 (Rn.bind d1 (Rn.bind o1 (Rn.bind c1 (Rn.pure _))))))
theorem qwv {m e : Int} (h : okN m e = true) : ∃ s p t r, Rn (fun k => qet k m e) (s, p, t, r, 0) ∧ Fr s p t r (qfA m e) ∧ p.length ≤ 2 ∧ r.length ≤ 2 := by
  obtain ⟨s, p, t, r, a1, a2, a3, a4⟩ := quK h
  refine ⟨s, p, t, r, Rn.up (f := fun k => qet k m e) ?_, a2, a3, a4⟩
  show Rn (fun k => qhl k m e) _
  unfold qhl
  have hv := qgC m e
  rw [h] at hv
  exact Rn.bind hv (Rn.f (by simp) (Rn.bind a1 (Rn.bind (qrv a2 (show p.length ≤ 1000000 by omega) (show r.length ≤ 1000000 by omega)) (Rn.pure _))))
theorem qyn {n0 d0 : Bool} {n1 d1 : List Int} {q : Rat} (h : Fr n0 n1 d0 d1 q) (l1 : n1.length ≤ 1000000) (l3 : d1.length ≤ 1000000) :
    ∃ s p t r, Rn (fun k => qfb k n0 n1 d0 d1) (s, p, t, r) ∧ Fr s p t r q ∧ p.length ≤ n1.length ∧ r.length ≤ d1.length := by
  have hd := Rat.den_pos' q
  obtain ⟨s, p, t, r, c1, c2, c3, c4⟩ := qkz n0 d0 n1 d1 h.1 h.2 l1 l3 (by omega)
  exact ⟨s, p, t, r, Rn.up (f := fun k => qfb k n0 n1 d0 d1) (Rn.bind (qkx h.1 (by omega)) (Rn.bind (qkx h.2 (by omega)) (Rn.bind c1 (Rn.pure _)))), c2.cast (Rat.num_divInt_den q), c3, c4⟩
theorem qdM {m e : Int} (h : okN m e = true) : ∃ s p t r, Rn (fun k => qaX k m e) (s, p, t, r) ∧ Fr s p t r (qfA m e) ∧ p.length ≤ 2 ∧ r.length ≤ 2 := by
  obtain ⟨s, p, t, r, a1, a2, a3, a4⟩ := qwv h
  obtain ⟨s1, p1, t1, r1, b1, b2, b3, b4⟩ := qyn a2 (by omega) (by omega)
  exact ⟨s1, p1, t1, r1, Rn.up (f := fun k => qaX k m e) (Rn.bind a1 (Rn.bind b1 (Rn.pure _))), b2, by omega, by omega⟩
theorem qoB (n d : Int) (hn : -9223372036854775808 ≤ n ∧ n ≤ 9223372036854775807) (hd : -9223372036854775808 ≤ d ∧ d ≤ 9223372036854775807) (h0 : d ≠ 0) :
    ∃ s p t r, Rn (fun k => qbO k n d) (s, p, t, r) ∧ Fr s p t r (Rat.divInt n d) ∧ p.length ≤ 2 ∧ r.length ≤ 2 := by
  obtain ⟨l, a1, a2, a3⟩ := qen n hn
  obtain ⟨m, b1, b2, b3⟩ := qen d hd
  obtain ⟨s, p, t, r, c1, c2, c3, c4⟩ := qkz _ _ l m a2 b2 (by omega) (by omega) h0
  exact ⟨s, p, t, r, Rn.up (f := fun k => qbO k n d) (Rn.bind a1 (Rn.bind b1 (Rn.bind c1 (Rn.pure _)))), c2, by omega, by omega⟩
theorem quL (k : Nat) (z0 z2 : Bool) (z1 z3 : List Int) (n0 d0 : Bool) (n1 d1 : List Int) : qbb k z0 z1 z2 z3 n0 n1 d0 d1 = qaT k false false n0 n1 d0 d1 := by cases k <;> rfl
section
variable {x0 x2 y0 y2 : Bool} {x1 x3 y1 y3 : List Int} {x y : Rat} (hx : Fr x0 x1 x2 x3 x) (hy : Fr y0 y1 y2 y3 y) (l1 : x1.length ≤ 100000) (l3 : x3.length ≤ 100000) (m1 : y1.length ≤ 100000) (m3 : y3.length ≤ 100000)
include hx hy l1 l3 m1 m3
theorem qww : ∃ s p t r, Rn (fun k => qcJ k x0 x1 x2 x3 y0 y1 y2 y3) (s, p, t, r, y0, y1, y2, y3) ∧ Fr s p t r (x + y) ∧ p.length ≤ max (x1.length + y3.length) (y1.length + x3.length) + 1 ∧ r.length ≤ x3.length + y3.length := by
  have dX := qeo hx (by omega) (by omega)
  have dY := qeo hy (by omega) (by omega)
  obtain ⟨s1, p1, a1, a2, a3⟩ := qkv false x0 y2 x2 x1 y3 x3 hx.1 hy.2 (by omega) (by omega)
  obtain ⟨s2, p2, b1, b2, b3⟩ := qkv false y0 x2 y2 y1 x3 y3 hy.1 hx.2 (by omega) (by omega)
  obtain ⟨s3, p3, c1, c2, c3⟩ := qgY false x2 y2 x3 y3 hx.2 hy.2 (by omega) (by omega)
  obtain ⟨s4, p4, d1, d2, d3⟩ := qoe s1 s2 p1 p2 a2 b2 (by omega) (by omega)
  have hdx := Rat.den_pos' x
  have hdy := Rat.den_pos' y
  have hd := Int.mul_pos hdx hdy
  obtain ⟨s, p, t, r, e1, e2, e3, e4⟩ := qky false false s4 s3 p4 p3 d2 c2 (by omega) (by omega) (by omega)
  have e1' : Rn (fun k => qbb k x0 x1 x2 x3 s4 p4 s3 p3) (s, p, t, r, s4, p4, s3, p3) := by simpa only [quL] using e1
  refine ⟨s, p, t, r, Rn.up (f := fun k => qcJ k x0 x1 x2 x3 y0 y1 y2 y3) ?_, e2.cast (qof x y), by omega, by omega⟩
  exact Rn.bind dY (Rn.bind a1 (Rn.bind dX (Rn.bind b1 (Rn.bind dX (Rn.bind dY (Rn.bind c1 (Rn.bind d1 (Rn.bind e1' (Rn.pure _)))))))))
theorem qrz : ∃ s p t r, Rn (fun k => qaB k x0 x1 x2 x3 y0 y1 y2 y3) (s, p, t, r, y0, y1, y2, y3) ∧ Fr s p t r (x * y) ∧ p.length ≤ x1.length + y1.length ∧ r.length ≤ x3.length + y3.length := by
  have dX := qeo hx (by omega) (by omega)
  have dY := qeo hy (by omega) (by omega)
  obtain ⟨s1, p1, a1, a2, a3⟩ := qx9 false x0 y0 x2 y2 x1 y1 x3 y3 hx.1 hy.1 (by omega) (by omega)
  obtain ⟨s3, p3, c1, c2, c3⟩ := qgY false x2 y2 x3 y3 hx.2 hy.2 (by omega) (by omega)
  have hdx := Rat.den_pos' x
  have hdy := Rat.den_pos' y
  have hd := Int.mul_pos hdx hdy
  obtain ⟨s, p, t, r, e1, e2, e3, e4⟩ := qky false false s1 s3 p1 p3 a2 c2 (by omega) (by omega) (by omega)
  have e1' : Rn (fun k => qbb k x0 x1 x2 x3 s1 p1 s3 p3) (s, p, t, r, s1, p1, s3, p3) := by simpa only [quL] using e1
  refine ⟨s, p, t, r, Rn.up (f := fun k => qaB k x0 x1 x2 x3 y0 y1 y2 y3) ?_, e2.cast (qsl x y), by omega, by omega⟩
  exact Rn.bind a1 (Rn.bind dX (Rn.bind dY (Rn.bind c1 (Rn.bind e1' (Rn.pure _)))))
end
def qqt (q : Rat) : Int × Int := qew (qfH (q * Rat.divInt 1000000000 1).num (q * Rat.divInt 1000000000 1).den)
end Go.Proofs.YtbhnafdmilfobaaGreat.Am

/- qt reckoning: the reference's sums and products of fractions. -/
set_option linter.unusedVariables false
set_option linter.unusedSectionVars false
set_option linter.unusedSimpArgs false
set_option maxRecDepth 10000
namespace Go.Proofs.YtbhnafdmilfobaaGreat.Am
open Go
section
variable {x0 x2 y0 y2 : Bool} {x1 x3 y1 y3 : List Int} {x y : Rat} (hx : FrU x0 x1 x2 x3 x) (hy : FrU y0 y1 y2 y3 y) (l1 : x1.length ≤ 10000) (l3 : x3.length ≤ 10000) (m1 : y1.length ≤ 10000) (m3 : y3.length ≤ 10000)
include hx hy l1 l3 m1 m3
theorem qrA : ∃ s p t r, Rn (fun k => qb0 k x0 x1 x2 x3 y0 y1 y2 y3) (s, p, t, r) ∧ FrU s p t r (x + y) ∧ p.length ≤ x1.length + y3.length + y1.length + x3.length + 1 ∧ r.length ≤ x3.length + y3.length := by
  have dx := Rat.den_pos' x
  have dy := Rat.den_pos' y
  have dd := Int.mul_pos dx dy
  obtain ⟨s1, n1, a1, a2, a3⟩ := qda x0 y2 x1 y3 hx.1 hy.2 (by omega) (by omega)
  obtain ⟨s2, n2, b1, b2, b3⟩ := qda y0 x2 y1 x3 hy.1 hx.2 (by omega) (by omega)
  obtain ⟨s3, n3, c1, c2, c3⟩ := qoh s1 s2 n1 n2 a2 b2 (by omega) (by omega)
  obtain ⟨s4, n4, d1, d2, d3⟩ := qda x2 y2 x3 y3 hx.2 hy.2 (by omega) (by omega)
  obtain ⟨s, p, t, r, e1, e2, e3, e4⟩ := qf2 _ _ _ _ c2 d2 (by omega) (by omega) (by omega)
  exact ⟨s, p, t, r, Rn.up (f := fun k => qb0 k x0 x1 x2 x3 y0 y1 y2 y3) (Rn.bind a1 (Rn.bind b1 (Rn.bind c1 (Rn.bind d1 (Rn.bind e1 (Rn.pure _)))))), e2.cast (qof x y), by omega, by omega⟩
theorem qiP : ∃ s p t r, Rn (fun k => qbd k x0 x1 x2 x3 y0 y1 y2 y3) (s, p, t, r) ∧ FrU s p t r (x * y) ∧ p.length ≤ x1.length + y1.length ∧ r.length ≤ x3.length + y3.length := by
  have dx := Rat.den_pos' x
  have dy := Rat.den_pos' y
  have dd := Int.mul_pos dx dy
  obtain ⟨s1, n1, a1, a2, a3⟩ := qda x0 y0 x1 y1 hx.1 hy.1 (by omega) (by omega)
  obtain ⟨s4, n4, d1, d2, d3⟩ := qda x2 y2 x3 y3 hx.2 hy.2 (by omega) (by omega)
  obtain ⟨s, p, t, r, e1, e2, e3, e4⟩ := qf2 _ _ _ _ a2 d2 (by omega) (by omega) (by omega)
  exact ⟨s, p, t, r, Rn.up (f := fun k => qbd k x0 x1 x2 x3 y0 y1 y2 y3) (Rn.bind a1 (Rn.bind d1 (Rn.bind e1 (Rn.pure _)))), e2.cast (qsl x y), by omega, by omega⟩
theorem qwx (h0 : y ≠ 0) : ∃ s p t r, Rn (fun k => qcO k x0 x1 x2 x3 y0 y1 y2 y3) (s, p, t, r) ∧ FrU s p t r (x / y) ∧ p.length ≤ x1.length + y3.length ∧ r.length ≤ x3.length + y1.length := by
  have dx := Rat.den_pos' x
  have hny : y.num ≠ 0 := fun h => h0 (Rat.num_eq_zero.1 h)
  have hdn : (x.den : Int) * y.num ≠ 0 := Int.mul_ne_zero (by omega) hny
  obtain ⟨s1, n1, a1, a2, a3⟩ := qda x0 y2 x1 y3 hx.1 hy.2 (by omega) (by omega)
  obtain ⟨s4, n4, d1, d2, d3⟩ := qda x2 y0 x3 y1 hx.2 hy.1 (by omega) (by omega)
  obtain ⟨s, p, t, r, e1, e2, e3, e4⟩ := qf2 _ _ _ _ a2 d2 (by omega) (by omega) hdn
  exact ⟨s, p, t, r, Rn.up (f := fun k => qcO k x0 x1 x2 x3 y0 y1 y2 y3) (Rn.bind a1 (Rn.bind d1 (Rn.bind e1 (Rn.pure _)))), e2.cast (qyd x y), by omega, by omega⟩
end
theorem quM {y0 y2 : Bool} {y1 y3 : List Int} {y : Rat} (hy : FrU y0 y1 y2 y3 y) : ∃ s p, Rn (fun k => qcl k y0 y1 y2 y3) (s, p, y2, y3) ∧ FrU s p y2 y3 (-y) ∧ p.length ≤ y1.length := by
  obtain ⟨s0, n0, m1, m2, m3⟩ := qht y0 y1 hy.1
  exact ⟨s0, n0, Rn.up (f := fun k => qcl k y0 y1 y2 y3) (Rn.bind m1 (Rn.pure _)), ⟨by rw [Rat.neg_num]; exact m2, by rw [Rat.neg_den]; exact hy.2⟩, m3⟩
theorem qwy {x0 x2 y0 y2 : Bool} {x1 x3 y1 y3 : List Int} {x y : Rat} (hx : FrU x0 x1 x2 x3 x) (hy : FrU y0 y1 y2 y3 y) (l1 : x1.length ≤ 10000) (l3 : x3.length ≤ 10000) (m1 : y1.length ≤ 10000) (m3 : y3.length ≤ 10000) :
    ∃ s p t r, Rn (fun k => qcL k x0 x1 x2 x3 y0 y1 y2 y3) (s, p, t, r) ∧ FrU s p t r (x - y) ∧ p.length ≤ x1.length + y3.length + y1.length + x3.length + 1 ∧ r.length ≤ x3.length + y3.length := by
  obtain ⟨s0, n0, a1, a2, a3⟩ := quM hy
  obtain ⟨s, p, t, r, e1, e2, e3, e4⟩ := qrA hx a2 l1 l3 (by omega) m3
  exact ⟨s, p, t, r, Rn.up (f := fun k => qcL k x0 x1 x2 x3 y0 y1 y2 y3) (Rn.bind a1 (Rn.bind e1 (Rn.pure _))), e2.cast (Rat.sub_eq_add_neg x y).symm, by omega, by omega⟩
theorem qsr {s t : Bool} {p r : List Int} {z : Int} (h : Nm U s p z) (h1 : Nm U t r 1) : FrU s p t r (Rat.divInt z 1) := by
  have e : Rat.divInt z 1 = (z : Rat) := Rat.num_divInt_den (z : Rat)
  rw [e]
  exact ⟨h, h1⟩
theorem qnC (v : Int) (hv : -9223372036854775808 ≤ v ∧ v ≤ 9223372036854775807) : ∃ s p t r, Rn (fun k => qbI k v) (s, p, t, r) ∧ FrU s p t r (Rat.divInt v 1) ∧ p.length ≤ 4 ∧ r.length ≤ 4 := by
  obtain ⟨l, a1, a2, a3⟩ := qhu v hv
  obtain ⟨o, b1, b2, b3⟩ := qep 1 (by decide)
  exact ⟨_, l, _, o, Rn.up (f := fun k => qbI k v) (Rn.bind a1 (Rn.bind b1 (Rn.pure _))), qsr a2 b2, a3, b3⟩
end Go.Proofs.YtbhnafdmilfobaaGreat.Am

/- qt reckoning: which waves are right. -/
set_option linter.unusedVariables false
set_option linter.unusedSectionVars false
set_option linter.unusedSimpArgs false
set_option maxRecDepth 10000
namespace Go.Proofs.YtbhnafdmilfobaaGreat.Am
open Go

theorem qoj {A B : Type} (L s : Nat) (F : Nat → Nat → Int → Option (A ⊕ B)) (b : B) (P : A → Prop) (ok : Nat → Prop)
    (hend : Rl (fun k n => F k n (L : Int)) (.inr b))
    (hgo : ∀ i : Nat, s ≤ i → i < L → ok i → ∀ o, Rl (fun k n => F k n ((i : Int) + 1)) o → Rl (fun k n => F k n (i : Int)) o)
    (hno : ∀ i : Nat, s ≤ i → i < L → ¬ ok i → ∃ a, P a ∧ Rl (fun k n => F k n (i : Int)) (.inl a)) :
    ∀ d i : Nat, s ≤ i → i + d = L → ∃ o, Rl (fun k n => F k n (i : Int)) o ∧ ((∀ j, i ≤ j → j < L → ok j) ∧ o = .inr b ∨ (¬ ∀ j, i ≤ j → j < L → ok j) ∧ ∃ a, P a ∧ o = .inl a) := by
  intro d
  induction d with
  | zero =>
    intro i hs hi
    obtain rfl : i = L := by omega
    exact ⟨_, hend, .inl ⟨fun j h1 h2 => absurd h2 (by omega), rfl⟩⟩
  | succ d ih =>
    intro i hs hi
    by_cases h : ok i
    · obtain ⟨o, h1, h2⟩ := ih (i + 1) (by omega) (by omega)
      refine ⟨o, hgo i hs (by omega) h o h1, ?_⟩
      have e : (∀ j, i + 1 ≤ j → j < L → ok j) ↔ (∀ j, i ≤ j → j < L → ok j) := ⟨fun g j j1 j2 => by
        rcases Nat.lt_or_ge i j with k | k
        · exact g j k j2
        · exact (show i = j by omega) ▸ h, fun g j j1 j2 => g j (by omega) j2⟩
      rwa [e] at h2
    · obtain ⟨a, h1, h2⟩ := hno i hs (by omega) h
      exact ⟨_, h2, .inr ⟨fun g => h (g i (Nat.le_refl _) (by omega)), a, h1, rfl⟩⟩
theorem getD_some {α : Type} {l : List α} {i : Nat} (d : α) (h : i < l.length) : l[i]? = some (l.getD i d) := by
  rw [List.getElem?_eq_getElem h]; simp [List.getD, h]
structure OkW (w0 : Int) (w1 : List (Int × Int)) (w2 : List Int) : Prop where
  vals : ∀ j, 0 ≤ j → j < w1.length → okN (w1.getD j (0, 0)).1 (w1.getD j (0, 0)).2 = true
  steps : ∀ j, 0 ≤ j → j < w2.length → 0 ≤ w2.getD j 0 ∧ w2.getD j 0 ≤ 1000000000
  kind : w0 = 1 ∧ w1.length = 1 ∧ w2.length = 0 ∨ w0 = 2 ∧ w1.length = 2 ∧ w2.length = 5 ∧ 1 ≤ w2.getD 4 0 ∧ w2.getD 1 0 + w2.getD 2 0 + w2.getD 3 0 ≤ w2.getD 4 0 ∨
    w0 = 3 ∧ w1.length = w2.length ∧ 1 ≤ w1.length ∧ w1.length ≤ 16 ∧ (∀ j, 1 ≤ j → j < w2.length → w2.getD (j - 1) 0 < w2.getD j 0) ∨ w0 = 4 ∧ 1 ≤ w1.length ∧ w1.length ≤ 16 ∧ w2.length = 0
noncomputable def okW (w0 : Int) (w1 : List (Int × Int)) (w2 : List Int) : Bool := @decide (OkW w0 w1 w2) (Classical.propDecidable _)
theorem qfd {w0 : Int} {w1 : List (Int × Int)} {w2 : List Int} : okW w0 w1 w2 = true ↔ OkW w0 w1 w2 := @decide_eq_true_iff _ (Classical.propDecidable _)
theorem qkB {w0 : Int} {w1 : List (Int × Int)} {w2 : List Int} : okW w0 w1 w2 = false ↔ ¬ OkW w0 w1 w2 := @decide_eq_false_iff_not _ (Classical.propDecidable _)
section
variable (w0 : Int) (w1 : List (Int × Int)) (w2 : List Int) (h1 : w1.length ≤ 1000000000000000000) (h2 : w2.length ≤ 1000000000000000000)
include h1 h2
theorem qyo : ∃ o, Rl (fun k n => qaL k n w1 w1.length 0 w0 w1 w2) o ∧ ((∀ j, 0 ≤ j → j < w1.length → okN (w1.getD j (0, 0)).1 (w1.getD j (0, 0)).2 = true) ∧ o = .inr (w0, w1, w2) ∨ (¬ ∀ j, 0 ≤ j → j < w1.length → okN (w1.getD j (0, 0)).1 (w1.getD j (0, 0)).2 = true) ∧ ∃ a : Bool × Int × List (Int × Int) × List Int × Int × Int, a.1 = false ∧ o = .inl a) := by
  refine qoj w1.length 0 (fun k n i => qaL k n w1 w1.length i w0 w1 w2) (w0, w1, w2) (fun a => a.1 = false) (fun j => okN (w1.getD j (0, 0)).1 (w1.getD j (0, 0)).2 = true) ?_ ?_ ?_ w1.length 0 (by omega) (by omega)
  · refine Rl.up (f := fun k n => qaL k n w1 w1.length w1.length w0 w1 w2) (Rl.of 0 fun k n _ => ?_)
    show qcy k (qaL k n) _ _ _ _ _ _ = _
    unfold qcy
    exact if_neg (by simp)
  · intro i hs hi hok o ho
    refine Rl.up (f := fun k n => qaL k n w1 w1.length i w0 w1 w2) ?_
    show Rl (fun k n => qcy k (qaL k n) _ _ _ _ _ _) _
    unfold qcy
    refine Rl.t (decide_eq_true (by omega)) (Rl.t (by omega) (Rl.at (getD_some (0, 0) (by omega)) (Rl.bind (qgC _ _) (Rl.f (by rw [Int.toNat_natCast, hok]; decide) ?_))))
    rw [qj (by omega)]
    exact ho
  · intro i hs hi hok
    refine ⟨(false, w0, w1, w2, (w1.getD i (0, 0)).1, (w1.getD i (0, 0)).2), rfl, Rl.up (f := fun k n => qaL k n w1 w1.length i w0 w1 w2) ?_⟩
    show Rl (fun k n => qcy k (qaL k n) _ _ _ _ _ _) _
    unfold qcy
    refine Rl.t (decide_eq_true (by omega)) (Rl.t (by omega) (Rl.at (getD_some (0, 0) (by omega)) (Rl.bind (qgC _ _) (Rl.t (by rw [Int.toNat_natCast, Bool.eq_false_iff.2 hok]; rfl) (Rl.pure _)))))
theorem qyp : ∃ o, Rl (fun k n => qax k n w2 w2.length 0 w0 w1 w2) o ∧ ((∀ j, 0 ≤ j → j < w2.length → 0 ≤ w2.getD j 0 ∧ w2.getD j 0 ≤ 1000000000) ∧ o = .inr (w0, w1, w2) ∨ (¬ ∀ j, 0 ≤ j → j < w2.length → 0 ≤ w2.getD j 0 ∧ w2.getD j 0 ≤ 1000000000) ∧ ∃ a : Bool × Int × List (Int × Int) × List Int, a.1 = false ∧ o = .inl a) := by
  refine qoj w2.length 0 (fun k n i => qax k n w2 w2.length i w0 w1 w2) (w0, w1, w2) (fun a => a.1 = false) (fun j => 0 ≤ w2.getD j 0 ∧ w2.getD j 0 ≤ 1000000000) ?_ ?_ ?_ w2.length 0 (by omega) (by omega)
  · refine Rl.up (f := fun k n => qax k n w2 w2.length w2.length w0 w1 w2) (Rl.of 0 fun k n _ => ?_)
    show qcz k (qax k n) _ _ _ _ _ _ = _
    unfold qcz
    exact if_neg (by simp)
  · intro i hs hi hok o ho
    refine Rl.up (f := fun k n => qax k n w2 w2.length i w0 w1 w2) ?_
    show Rl (fun k n => qcz k (qax k n) _ _ _ _ _ _) _
    unfold qcz
    refine Rl.t (decide_eq_true (by omega)) (Rl.t (by omega) (Rl.at (getD_some 0 (by omega)) (Rl.t (decide_eq_false (by rw [Int.toNat_natCast]; omega)) (Rl.f (by rw [decide_eq_true_eq, Int.toNat_natCast]; omega) ?_))))
    rw [qj (by omega)]
    exact ho
  · intro i hs hi hok
    refine ⟨(false, w0, w1, w2), rfl, Rl.up (f := fun k n => qax k n w2 w2.length i w0 w1 w2) ?_⟩
    show Rl (fun k n => qcz k (qax k n) _ _ _ _ _ _) _
    unfold qcz
    refine Rl.t (decide_eq_true (by omega)) (Rl.t (by omega) (Rl.at (getD_some 0 (by omega)) ?_))
    rw [Int.toNat_natCast]
    by_cases h0 : w2.getD i 0 < 0
    · exact Rl.f (by rw [decide_eq_false_iff_not]; omega) (Rl.pure _)
    · exact Rl.t (decide_eq_false h0) (Rl.t (decide_eq_true (by omega)) (Rl.pure _))
theorem qyq (hlen : 1 ≤ w2.length) : ∃ o, Rl (fun k n => qao k n 1 w0 w1 w2) o ∧ ((∀ j, 1 ≤ j → j < w2.length → w2.getD (j - 1) 0 < w2.getD j 0) ∧ o = .inr (w0, w1, w2) ∨ (¬ ∀ j, 1 ≤ j → j < w2.length → w2.getD (j - 1) 0 < w2.getD j 0) ∧ ∃ a : Bool × Int × List (Int × Int) × List Int, a.1 = false ∧ o = .inl a) := by
  refine qoj w2.length 1 (fun k n i => qao k n i w0 w1 w2) (w0, w1, w2) (fun a => a.1 = false) (fun j => w2.getD (j - 1) 0 < w2.getD j 0) ?_ ?_ ?_ (w2.length - 1) 1 (by omega) (by omega)
  · refine Rl.up (f := fun k n => qao k n w2.length w0 w1 w2) (Rl.of 0 fun k n _ => ?_)
    show qbG k (qao k n) _ _ _ _ = _
    unfold qbG
    exact if_neg (by simp)
  · intro i hs hi hok o ho
    refine Rl.up (f := fun k n => qao k n i w0 w1 w2) ?_
    show Rl (fun k n => qbG k (qao k n) _ _ _ _) _
    unfold qbG
    have e1 : (IntKind.i64.wrap ((i : Int) - 1)) = ((i - 1 : Nat) : Int) := by rw [qj (by omega)]; omega
    rw [e1]
    refine Rl.t (decide_eq_true (by omega)) (Rl.t (by omega) (Rl.at (getD_some 0 (by omega)) (Rl.t (by omega) (Rl.at (getD_some 0 (by omega)) (Rl.f (by rw [decide_eq_true_eq, Int.toNat_natCast, Int.toNat_natCast]; omega) ?_)))))
    rw [qj (by omega)]
    exact ho
  · intro i hs hi hok
    refine ⟨(false, w0, w1, w2), rfl, Rl.up (f := fun k n => qao k n i w0 w1 w2) ?_⟩
    show Rl (fun k n => qbG k (qao k n) _ _ _ _) _
    unfold qbG
    have e1 : (IntKind.i64.wrap ((i : Int) - 1)) = ((i - 1 : Nat) : Int) := by rw [qj (by omega)]; omega
    rw [e1]
    exact Rl.t (decide_eq_true (by omega)) (Rl.t (by omega) (Rl.at (getD_some 0 (by omega)) (Rl.t (by omega) (Rl.at (getD_some 0 (by omega)) (Rl.t (decide_eq_true (by rw [Int.toNat_natCast, Int.toNat_natCast]; omega)) (Rl.pure _))))))
theorem qyr : ∃ o, Rl (fun k n => qR k n 0 w0 w1 w2) o ∧ ((∀ j, 0 ≤ j → j < w1.length → okN (w1.getD j (0, 0)).1 (w1.getD j (0, 0)).2 = true) ∧ o = .inr (w0, w1, w2) ∨ (¬ ∀ j, 0 ≤ j → j < w1.length → okN (w1.getD j (0, 0)).1 (w1.getD j (0, 0)).2 = true) ∧ ∃ a : Bool × Int × List (Int × Int) × List Int, a.1 = false ∧ o = .inl a) := by
  refine qoj w1.length 0 (fun k n i => qR k n i w0 w1 w2) (w0, w1, w2) (fun a => a.1 = false) (fun j => okN (w1.getD j (0, 0)).1 (w1.getD j (0, 0)).2 = true) ?_ ?_ ?_ w1.length 0 (by omega) (by omega)
  · refine Rl.up (f := fun k n => qR k n w1.length w0 w1 w2) (Rl.of 0 fun k n _ => ?_)
    show qa6 k (qR k n) _ _ _ _ = _
    unfold qa6
    exact if_neg (by simp)
  · intro i hs hi hok o ho
    refine Rl.up (f := fun k n => qR k n i w0 w1 w2) ?_
    show Rl (fun k n => qa6 k (qR k n) _ _ _ _) _
    unfold qa6
    refine Rl.t (decide_eq_true (by omega)) (Rl.t (by omega) (Rl.at (getD_some (0, 0) (by omega)) (Rl.bind (qkN _ _) (Rl.f (by rw [Int.toNat_natCast, hok]; decide) ?_))))
    rw [qj (by omega)]
    exact ho
  · intro i hs hi hok
    refine ⟨(false, w0, w1, w2), rfl, Rl.up (f := fun k n => qR k n i w0 w1 w2) ?_⟩
    show Rl (fun k n => qa6 k (qR k n) _ _ _ _) _
    unfold qa6
    refine Rl.t (decide_eq_true (by omega)) (Rl.t (by omega) (Rl.at (getD_some (0, 0) (by omega)) (Rl.bind (qkN _ _) (Rl.t (by rw [Int.toNat_natCast, Bool.eq_false_iff.2 hok]; rfl) (Rl.pure _)))))
theorem qys : ∃ o, Rl (fun k n => qM k n 0 w0 w1 w2) o ∧ ((∀ j, 0 ≤ j → j < w2.length → 0 ≤ w2.getD j 0 ∧ w2.getD j 0 ≤ 1000000000) ∧ o = .inr (w0, w1, w2) ∨ (¬ ∀ j, 0 ≤ j → j < w2.length → 0 ≤ w2.getD j 0 ∧ w2.getD j 0 ≤ 1000000000) ∧ ∃ a : Bool × Int × List (Int × Int) × List Int, a.1 = false ∧ o = .inl a) := by
  refine qoj w2.length 0 (fun k n i => qM k n i w0 w1 w2) (w0, w1, w2) (fun a => a.1 = false) (fun j => 0 ≤ w2.getD j 0 ∧ w2.getD j 0 ≤ 1000000000) ?_ ?_ ?_ w2.length 0 (by omega) (by omega)
  · refine Rl.up (f := fun k n => qM k n w2.length w0 w1 w2) (Rl.of 0 fun k n _ => ?_)
    show qa7 k (qM k n) _ _ _ _ = _
    unfold qa7
    exact if_neg (by simp)
  · intro i hs hi hok o ho
    refine Rl.up (f := fun k n => qM k n i w0 w1 w2) ?_
    show Rl (fun k n => qa7 k (qM k n) _ _ _ _) _
    unfold qa7
    refine Rl.t (decide_eq_true (by omega)) (Rl.t (by omega) (Rl.at (getD_some 0 (by omega)) (Rl.t (decide_eq_false (by rw [Int.toNat_natCast]; omega)) (Rl.t (by omega) (Rl.at (getD_some 0 (by omega)) (Rl.f (by rw [decide_eq_true_eq, Int.toNat_natCast]; omega) ?_))))))
    rw [qj (by omega)]
    exact ho
  · intro i hs hi hok
    refine ⟨(false, w0, w1, w2), rfl, Rl.up (f := fun k n => qM k n i w0 w1 w2) ?_⟩
    show Rl (fun k n => qa7 k (qM k n) _ _ _ _) _
    unfold qa7
    refine Rl.t (decide_eq_true (by omega)) (Rl.t (by omega) (Rl.at (getD_some 0 (by omega)) ?_))
    rw [Int.toNat_natCast]
    by_cases h0 : w2.getD i 0 < 0
    · exact Rl.f (by rw [decide_eq_false_iff_not]; omega) (Rl.pure _)
    · exact Rl.t (decide_eq_false h0) (Rl.t (by omega) (Rl.at (getD_some 0 (by omega)) (Rl.t (decide_eq_true (by omega)) (Rl.pure _))))
end
theorem quN (w2 : List Int) (h2 : w2.length ≤ 1000000000000000000) (hlen : 1 ≤ w2.length) : ∃ b, Rn (fun k => qbA k w2) b ∧ (b = true ↔ ∀ j, 1 ≤ j → j < w2.length → w2.getD (j - 1) 0 < w2.getD j 0) := by
  obtain ⟨o, ho, h⟩ : ∃ o, Rl (fun k n => qO k n w2 1) o ∧ ((∀ j, 1 ≤ j → j < w2.length → w2.getD (j - 1) 0 < w2.getD j 0) ∧ o = .inr () ∨ (¬ ∀ j, 1 ≤ j → j < w2.length → w2.getD (j - 1) 0 < w2.getD j 0) ∧ ∃ a : Bool, a = false ∧ o = .inl a) := by
    refine qoj w2.length 1 (fun k n i => qO k n w2 i) () (fun a => a = false) (fun j => w2.getD (j - 1) 0 < w2.getD j 0) ?_ ?_ ?_ (w2.length - 1) 1 (by omega) (by omega)
    · refine Rl.up (f := fun k n => qO k n w2 w2.length) (Rl.of 0 fun k n _ => ?_)
      show qaW k (qO k n) _ _ = _
      unfold qaW
      exact if_neg (by simp)
    · intro i hs hi hok o ho
      refine Rl.up (f := fun k n => qO k n w2 i) ?_
      show Rl (fun k n => qaW k (qO k n) _ _) _
      unfold qaW
      have e1 : (IntKind.i64.wrap ((i : Int) - 1)) = ((i - 1 : Nat) : Int) := by rw [qj (by omega)]; omega
      rw [e1]
      refine Rl.t (decide_eq_true (by omega)) (Rl.t (by omega) (Rl.at (getD_some 0 (by omega)) (Rl.t (by omega) (Rl.at (getD_some 0 (by omega)) (Rl.f (by rw [decide_eq_true_eq, Int.toNat_natCast, Int.toNat_natCast]; omega) ?_)))))
      rw [qj (by omega)]
      exact ho
    · intro i hs hi hok
      refine ⟨false, rfl, Rl.up (f := fun k n => qO k n w2 i) ?_⟩
      show Rl (fun k n => qaW k (qO k n) _ _) _
      unfold qaW
      have e1 : (IntKind.i64.wrap ((i : Int) - 1)) = ((i - 1 : Nat) : Int) := by rw [qj (by omega)]; omega
      rw [e1]
      exact Rl.t (decide_eq_true (by omega)) (Rl.t (by omega) (Rl.at (getD_some 0 (by omega)) (Rl.t (by omega) (Rl.at (getD_some 0 (by omega)) (Rl.t (decide_eq_true (by rw [Int.toNat_natCast, Int.toNat_natCast]; omega)) (Rl.pure _))))))
  rcases h with ⟨h, rfl⟩ | ⟨h, a, ha, rfl⟩
  · exact ⟨true, Rn.up (f := fun k => qbA k w2) (Rn.bind ho.diag (Rn.pure _)), by simp only [true_iff]; exact h⟩
  · subst ha
    exact ⟨false, Rn.up (f := fun k => qbA k w2) (Rn.bind ho.diag (Rn.pure _)), by simp only [Bool.false_eq_true, false_iff]; exact h⟩
end Go.Proofs.YtbhnafdmilfobaaGreat.Am

/- qt reckoning: which waves are right, the whole. -/
set_option linter.unusedVariables false
set_option linter.unusedSectionVars false
set_option linter.unusedSimpArgs false
set_option maxRecDepth 10000
namespace Go.Proofs.YtbhnafdmilfobaaGreat.Am
open Go

theorem qc4 {w0 : Int} {w1 : List (Int × Int)} {w2 : List Int} {b : Bool} (h : b = true ↔ OkW w0 w1 w2) : b = okW w0 w1 w2 := Bool.eq_iff_iff.2 (h.trans qfd.symm)
section
variable (w0 : Int) (w1 : List (Int × Int)) (w2 : List Int) (h1 : w1.length ≤ 1000000000000000000) (h2 : w2.length ≤ 1000000000000000000)
include h1 h2
theorem qdp : Rn (fun k => qb9 k w0 w1 w2) (okW w0 w1 w2) := by
  refine Rn.up (f := fun k => qb9 k w0 w1 w2) ?_
  show Rn (fun k => qgx k w0 w1 w2) _
  unfold qgx
  obtain ⟨o, ho, hv⟩ := qyo w0 w1 w2 h1 h2
  refine Rn.bind ho.diag ?_
  rcases hv with ⟨hv, rfl⟩ | ⟨hv, a, ha, rfl⟩
  case inr =>
    have : okW w0 w1 w2 = false := qkB.2 fun h => hv h.vals
    rw [this, ← ha]
    exact Rn.pure _
  show Rn (fun k => Option.bind (qax k k w2 w2.length 0 w0 w1 w2) _) _
  obtain ⟨o, ho, hs⟩ := qyp w0 w1 w2 h1 h2
  refine Rn.bind ho.diag ?_
  rcases hs with ⟨hs, rfl⟩ | ⟨hs, a, ha, rfl⟩
  case inr =>
    have : okW w0 w1 w2 = false := qkB.2 fun h => hs h.steps
    rw [this, ← ha]
    exact Rn.pure _
  have hk : OkW w0 w1 w2 ↔ _ := ⟨fun h => h.kind, fun h => ⟨hv, hs, h⟩⟩
  by_cases k1 : w0 = 1
  · refine Rn.t (by simp [k1]) (Rn.eq 0 fun k _ => ?_)
    dsimp only
    repeat' split
    all_goals refine congrArg some (qc4 (Iff.trans ?_ hk.symm))
    all_goals simp only [beq_iff_eq, decide_eq_true_eq, Bool.false_eq_true, false_iff, Bool.not_eq_true] at *
    all_goals omega
  refine Rn.f (by simpa using k1) ?_
  by_cases k2 : w0 = 2
  · refine Rn.t (by simp [k2]) ?_
    by_cases l1 : w1.length = 2
    · refine Rn.t (by simp [l1]) ?_
      by_cases l2 : w2.length = 5
      · refine Rn.t (by simp [l2]) ?_
        refine Rn.at (getD_some 0 (by show 4 < w2.length; omega)) ?_
        by_cases l3 : w2.getD 4 0 ≥ 1
        · refine Rn.t (decide_eq_true l3) (Rn.at (getD_some 0 (by show 1 < w2.length; omega)) (Rn.at (getD_some 0 (by show 2 < w2.length; omega)) (Rn.at (getD_some 0 (by show 3 < w2.length; omega)) (Rn.at (getD_some 0 (by show 4 < w2.length; omega)) (Rn.const (congrArg some (qc4 (Iff.trans ?_ hk.symm))))))))
          have s1 := hs 1 (by omega) (by omega)
          have s2 := hs 2 (by omega) (by omega)
          have s3 := hs 3 (by omega) (by omega)
          dsimp only
          rw [qj (x := w2.getD 1 0 + w2.getD 2 0) (by omega), qj (by omega), decide_eq_true_eq]
          constructor
          · intro h; exact .inr (.inl ⟨k2, l1, l2, l3, h⟩)
          · rintro (⟨a, _⟩ | ⟨_, _, _, _, h⟩ | ⟨a, _⟩ | ⟨a, _⟩) <;> omega
        · refine Rn.f (by rw [decide_eq_true_eq]; exact l3) (Rn.const (congrArg some (qc4 (Iff.trans ?_ hk.symm))))
          simp only [Bool.false_eq_true, false_iff]
          omega
      · refine Rn.f (by simpa using (by omega : ¬ (w2.length : Int) = 5)) (Rn.const (congrArg some (qc4 (Iff.trans ?_ hk.symm))))
        simp only [Bool.false_eq_true, false_iff]
        omega
    · refine Rn.f (by simpa using (by omega : ¬ (w1.length : Int) = 2)) (Rn.const (congrArg some (qc4 (Iff.trans ?_ hk.symm))))
      simp only [Bool.false_eq_true, false_iff]
      omega
  refine Rn.f (by simpa using k2) ?_
  by_cases k3 : w0 = 3
  · refine Rn.t (by simp [k3]) ?_
    by_cases l0 : w2.length = 0
    · have e5 : Rn (fun k => qao k k 1 w0 w1 w2) (.inr (w0, w1, w2)) := Rn.eq 1 fun k hk => by
        obtain ⟨k, rfl⟩ : ∃ m, k = m + 1 := ⟨k - 1, by omega⟩
        show qbG (k + 1) (qao (k + 1) k) _ _ _ _ = _
        unfold qbG
        exact if_neg (by rw [l0]; decide)
      refine Rn.bind e5 (Rn.eq 0 fun k _ => ?_)
      show (if _ then _ else _) = _
      dsimp only
      repeat' split
      all_goals refine congrArg some (qc4 (Iff.trans ?_ hk.symm))
      all_goals simp only [beq_iff_eq, decide_eq_true_eq, Bool.false_eq_true, false_iff, Bool.not_eq_true] at *
      all_goals omega
    obtain ⟨o, ho, h5⟩ := qyq w0 w1 w2 h1 h2 (by omega)
    refine Rn.bind ho.diag ?_
    rcases h5 with ⟨h5, rfl⟩ | ⟨h5, a, ha, rfl⟩
    case inr =>
      have : okW w0 w1 w2 = false := qkB.2 fun h => by
        rcases h.kind with g | g | g | g
        · omega
        · omega
        · exact h5 g.2.2.2.2
        · omega
      rw [this, ← ha]
      exact Rn.pure _
    refine Rn.eq 0 fun k _ => ?_
    show (if _ then _ else _) = _
    dsimp only
    have hk3 : OkW w0 w1 w2 ↔ (w1.length = w2.length ∧ 1 ≤ w1.length ∧ w1.length ≤ 16) := hk.trans ⟨fun g => by
      rcases g with g | g | g | g
      · omega
      · omega
      · exact ⟨g.2.1, g.2.2.1, g.2.2.2.1⟩
      · omega, fun g => .inr (.inr (.inl ⟨k3, g.1, g.2.1, g.2.2, h5⟩))⟩
    repeat' split
    all_goals refine congrArg some (qc4 (Iff.trans ?_ hk3.symm))
    all_goals simp only [beq_iff_eq, decide_eq_true_eq, Bool.false_eq_true, false_iff, Bool.not_eq_true] at *
    all_goals omega
  refine Rn.f (by simpa using k3) ?_
  by_cases k4 : w0 = 4
  · refine Rn.t (by simp [k4]) (Rn.eq 0 fun k _ => ?_)
    dsimp only
    repeat' split
    all_goals refine congrArg some (qc4 (Iff.trans ?_ hk.symm))
    all_goals simp only [beq_iff_eq, decide_eq_true_eq, Bool.false_eq_true, false_iff, Bool.not_eq_true] at *
    all_goals omega
  refine Rn.f (by simpa using k4) (Rn.const (congrArg some (qc4 (Iff.trans ?_ hk.symm))))
  simp only [Bool.false_eq_true, false_iff]
  omega
theorem qfr : Rn (fun k => qbe k w0 w1 w2) (okW w0 w1 w2) := by
  refine Rn.up (f := fun k => qbe k w0 w1 w2) ?_
  show Rn (fun k => qeE k w0 w1 w2) _
  unfold qeE
  obtain ⟨o, ho, hv⟩ := qyr w0 w1 w2 h1 h2
  refine Rn.bind ho.diag ?_
  rcases hv with ⟨hv, rfl⟩ | ⟨hv, a, ha, rfl⟩
  case inr =>
    have : okW w0 w1 w2 = false := qkB.2 fun h => hv h.vals
    rw [this, ← ha]
    exact Rn.pure _
  show Rn (fun k => Option.bind (qM k k 0 w0 w1 w2) _) _
  obtain ⟨o, ho, hs⟩ := qys w0 w1 w2 h1 h2
  refine Rn.bind ho.diag ?_
  rcases hs with ⟨hs, rfl⟩ | ⟨hs, a, ha, rfl⟩
  case inr =>
    have : okW w0 w1 w2 = false := qkB.2 fun h => hs h.steps
    rw [this, ← ha]
    exact Rn.pure _
  have hk : OkW w0 w1 w2 ↔ _ := ⟨fun h => h.kind, fun h => ⟨hv, hs, h⟩⟩
  by_cases k1 : w0 = 1
  · refine Rn.t (by simp [k1]) (Rn.eq 0 fun k _ => ?_)
    dsimp only
    repeat' split
    all_goals refine congrArg some (qc4 (Iff.trans ?_ hk.symm))
    all_goals simp only [beq_iff_eq, decide_eq_true_eq, Bool.false_eq_true, false_iff, Bool.not_eq_true] at *
    all_goals omega
  refine Rn.f (by simpa using k1) ?_
  by_cases k2 : w0 = 2
  · refine Rn.t (by simp [k2]) ?_
    by_cases l1 : w1.length = 2
    · refine Rn.t (by simp [l1]) ?_
      by_cases l2 : w2.length = 5
      · refine Rn.t (by simp [l2]) ?_
        refine Rn.at (getD_some 0 (by show 4 < w2.length; omega)) ?_
        by_cases l3 : w2.getD 4 0 > 0
        · refine Rn.t (decide_eq_true l3) (Rn.at (getD_some 0 (by show 1 < w2.length; omega)) (Rn.at (getD_some 0 (by show 2 < w2.length; omega)) (Rn.at (getD_some 0 (by show 3 < w2.length; omega)) (Rn.at (getD_some 0 (by show 4 < w2.length; omega)) (Rn.const (congrArg some (qc4 (Iff.trans ?_ hk.symm))))))))
          have s1 := hs 1 (by omega) (by omega)
          have s2 := hs 2 (by omega) (by omega)
          have s3 := hs 3 (by omega) (by omega)
          dsimp only
          rw [qj (x := w2.getD 1 0 + w2.getD 2 0) (by omega), qj (by omega), decide_eq_true_eq]
          constructor
          · intro h; exact .inr (.inl ⟨k2, l1, l2, l3, h⟩)
          · rintro (⟨a, _⟩ | ⟨_, _, _, _, h⟩ | ⟨a, _⟩ | ⟨a, _⟩) <;> omega
        · refine Rn.f (by rw [decide_eq_true_eq]; exact l3) (Rn.const (congrArg some (qc4 (Iff.trans ?_ hk.symm))))
          simp only [Bool.false_eq_true, false_iff]
          omega
      · refine Rn.f (by simpa using (by omega : ¬ (w2.length : Int) = 5)) (Rn.const (congrArg some (qc4 (Iff.trans ?_ hk.symm))))
        simp only [Bool.false_eq_true, false_iff]
        omega
    · refine Rn.f (by simpa using (by omega : ¬ (w1.length : Int) = 2)) (Rn.const (congrArg some (qc4 (Iff.trans ?_ hk.symm))))
      simp only [Bool.false_eq_true, false_iff]
      omega
  refine Rn.f (by simpa using k2) ?_
  by_cases k3 : w0 = 3
  · refine Rn.t (by simp [k3]) ?_
    by_cases l0 : w1.length = w2.length ∧ 1 ≤ w1.length ∧ w1.length ≤ 16
    · refine Rn.t (by rw [beq_iff_eq]; show (w1.length : Int) = w2.length; omega) (Rn.t (decide_eq_true (by show (w1.length : Int) ≥ 1; omega)) (Rn.t (decide_eq_true (by show (w1.length : Int) ≤ 16; omega)) ?_))
      obtain ⟨b, hb, h5⟩ := quN w2 h2 (by omega)
      have : b = okW w0 w1 w2 := qc4 (h5.trans (Iff.trans ⟨fun g => .inr (.inr (.inl ⟨k3, l0.1, l0.2.1, l0.2.2, g⟩)), fun g => by
        rcases g with g | g | g | g
        · omega
        · omega
        · exact g.2.2.2.2
        · omega⟩ hk.symm))
      rw [← this]
      exact Rn.bind hb (Rn.pure _)
    · have : okW w0 w1 w2 = false := qkB.2 fun h => by have := h.kind; omega
      rw [this]
      by_cases c1 : w1.length = w2.length
      · refine Rn.t (by rw [beq_iff_eq]; show (w1.length : Int) = w2.length; omega) ?_
        by_cases c2 : 1 ≤ w1.length
        · refine Rn.t (decide_eq_true (by show (w1.length : Int) ≥ 1; omega)) (Rn.f (by rw [decide_eq_true_eq]; show ¬ (w1.length : Int) ≤ 16; omega) (Rn.pure _))
        · exact Rn.f (by rw [decide_eq_true_eq]; show ¬ (w1.length : Int) ≥ 1; omega) (Rn.pure _)
      · exact Rn.f (by rw [beq_iff_eq]; show ¬ (w1.length : Int) = w2.length; omega) (Rn.pure _)
  refine Rn.f (by simpa using k3) ?_
  by_cases k4 : w0 = 4
  · refine Rn.t (by simp [k4]) (Rn.eq 0 fun k _ => ?_)
    dsimp only
    repeat' split
    all_goals refine congrArg some (qc4 (Iff.trans ?_ hk.symm))
    all_goals simp only [beq_iff_eq, decide_eq_true_eq, Bool.false_eq_true, false_iff, Bool.not_eq_true] at *
    all_goals omega
  refine Rn.f (by simpa using k4) (Rn.const (congrArg some (qc4 (Iff.trans ?_ hk.symm))))
  simp only [Bool.false_eq_true, false_iff]
  omega
end
end Go.Proofs.YtbhnafdmilfobaaGreat.Am

/- qt reckoning: what a wave says. -/
set_option linter.unusedVariables false
set_option linter.unusedSectionVars false
set_option linter.unusedSimpArgs false
set_option maxRecDepth 10000
namespace Go.Proofs.YtbhnafdmilfobaaGreat.Am
open Go

def qok (a b : Rat) (k n : Int) : Rat := (b - a) * Rat.divInt k n + a
theorem qhv {a0 a1 b0 b1 : Int} (ha : okN a0 a1 = true) (hb : okN b0 b1 = true) (k0 n : Int) (hk : -9223372036854775808 ≤ k0 ∧ k0 ≤ 9223372036854775807) (hn : -9223372036854775808 ≤ n ∧ n ≤ 9223372036854775807) (h0 : n ≠ 0) :
    ∃ s p t r, Rn (fun k => qcp k a0 a1 b0 b1 k0 n) (s, p, t, r) ∧ Fr s p t r (qok (qfA a0 a1) (qfA b0 b1) k0 n) ∧ p.length ≤ 40 ∧ r.length ≤ 40 := by
  obtain ⟨s1, p1, t1, r1, a1', a2, a3, a4⟩ := qdM ha
  obtain ⟨s2, p2, t2, r2, b1', b2, b3, b4⟩ := qdM hb
  obtain ⟨s3, p3, t3, r3, c1, c2, c3, c4⟩ := qyg false false b2 a2 (by omega) (by omega) (by omega) (by omega)
  obtain ⟨s4, p4, t4, r4, d1, d2, d3, d4⟩ := qoB k0 n hk hn h0
  obtain ⟨s5, p5, t5, r5, e1, e2, e3, e4⟩ := qrz c2 d2 (by omega) (by omega) (by omega) (by omega)
  obtain ⟨s6, p6, t6, r6, f1, f2, f3, f4⟩ := qww e2 a2 (by omega) (by omega) (by omega) (by omega)
  exact ⟨s6, p6, t6, r6, Rn.up (f := fun k => qcp k a0 a1 b0 b1 k0 n) (Rn.bind a1' (Rn.bind b1' (Rn.bind c1 (Rn.bind d1 (Rn.bind e1 (Rn.bind f1 (Rn.pure _))))))), f2, by omega, by omega⟩
theorem qhw {x0 x2 : Bool} {x1 x3 : List Int} {q : Rat} (hx : Fr x0 x1 x2 x3 q) (l1 : x1.length ≤ 40) (l3 : x3.length ≤ 40) :
    Rn (fun k => Option.bind (qbO k 1000000000 1) fun r2 => Option.bind (qaB k x0 x1 x2 x3 r2.1 r2.2.1 r2.2.2.1 r2.2.2.2) fun r3 => Option.bind (qaV k r3.1 r3.2.1 r3.2.2.1 r3.2.2.2.1) fun r4 => Option.bind (qcY k r4.1 r4.2.1 r4.2.2.1 r4.2.2.2.1) fun r5 => some (r5.1, r5.2)) (qqt q) := by
  obtain ⟨s1, p1, t1, r1, b1, b2, b3, b4⟩ := qoB 1000000000 1 (by omega) (by omega) (by omega)
  obtain ⟨s2, p2, t2, r2, c1, c2, c3, c4⟩ := qrz hx b2 (by omega) (by omega) (by omega) (by omega)
  exact Rn.bind b1 (Rn.bind c1 (Rn.bind (qrv c2 (show p2.length ≤ 1000000 by omega) (show r2.length ≤ 1000000 by omega)) (Rn.bind (qwr c2 (show p2.length ≤ 72 by omega) (show r2.length ≤ 72 by omega)) (Rn.pure _))))

def qgZ (lo hi : Rat) (s0 s1 s2 s3 s4 step : Int) : Rat :=
  if step < s0 then lo else if (step - s0) % s4 < s1 then qok lo hi ((step - s0) % s4) s1 else if (step - s0) % s4 < s1 + s2 then hi
  else if (step - s0) % s4 < s1 + s2 + s3 then qok hi lo ((step - s0) % s4 - s1 - s2) s3 else lo
def upI (step : Int) : List Int → Nat
  | [] => 0
  | x :: l => if x ≤ step then upI step l + 1 else 0
def qe6 (w1 : List (Int × Int)) (j : Nat) : Rat := qfA (w1.getD j (0, 0)).1 (w1.getD j (0, 0)).2
def qrB (w1 : List (Int × Int)) (w2 : List Int) (step : Int) (i : Nat) : Rat :=
  if i = 0 then qe6 w1 0 else if i = w2.length then qe6 w1 (i - 1) else qok (qe6 w1 (i - 1)) (qe6 w1 i) (step - w2.getD (i - 1) 0) (w2.getD i 0 - w2.getD (i - 1) 0)
def atQ (w0 : Int) (w1 : List (Int × Int)) (w2 : List Int) (step : Int) : Rat :=
  if w0 = 1 then qe6 w1 0 else if w0 = 2 then qgZ (qe6 w1 0) (qe6 w1 1) (w2.getD 0 0) (w2.getD 1 0) (w2.getD 2 0) (w2.getD 3 0) (w2.getD 4 0) step
  else if w0 = 3 then qrB w1 w2 step (upI step w2) else qe6 w1 (step % (w1.length : Int)).toNat
theorem qnD (step : Int) : ∀ l : List Int, upI step l ≤ l.length
  | [] => Nat.le_refl _
  | x :: l => by have := qnD step l; unfold upI; split <;> simp <;> omega
theorem qgt (step : Int) : ∀ (l : List Int) (j : Nat), j < upI step l → l.getD j 0 ≤ step
  | [], j, h => absurd h (by simp [upI])
  | x :: l, j, h => by
    unfold upI at h
    split at h
    · cases j with
      | zero => simpa using ‹x ≤ step›
      | succ j => simpa using qgt step l j (by omega)
    · omega
theorem qnE (step : Int) : ∀ l : List Int, upI step l < l.length → step < l.getD (upI step l) 0
  | [], h => absurd h (by simp)
  | x :: l, h => by
    unfold upI at h ⊢
    split at h
    · rename_i g
      rw [if_pos g]
      simpa using qnE step l (by simpa using h)
    · rename_i g
      rw [if_neg g]
      simpa using g
theorem qwz (step w0 : Int) (w1 : List (Int × Int)) (w2 : List Int) (h2 : w2.length ≤ 1000000000000000000) : ∀ d i : Nat, i + d = w2.length → Rl (fun k n => qca k n step i w0 w1 w2) (step, ((i + upI step (w2.drop i) : Nat) : Int), w0, w1, w2) := by
  intro d
  induction d with
  | zero =>
    intro i hi
    refine Rl.up (f := fun k n => qca k n step i w0 w1 w2) (Rl.of 0 fun k n _ => ?_)
    show qek k (qca k n) _ _ _ _ _ = _
    unfold qek
    rw [List.drop_of_length_le (by omega)]
    exact if_neg (by simp; omega)
  | succ d ih =>
    intro i hi
    refine Rl.up (f := fun k n => qca k n step i w0 w1 w2) ?_
    show Rl (fun k n => qek k (qca k n) _ _ _ _ _) _
    unfold qek
    have hd : w2.drop i = w2.getD i 0 :: w2.drop (i + 1) := by rw [List.drop_eq_getElem_cons (by omega)]; simp [List.getD, show i < w2.length by omega]
    refine Rl.t (decide_eq_true (by omega)) (Rl.t (by omega) (Rl.at (getD_some 0 (by omega)) ?_))
    rw [Int.toNat_natCast, hd]
    by_cases h : w2.getD i 0 ≤ step
    · refine Rl.t (decide_eq_true h) ?_
      have := ih (i + 1) (by omega)
      rw [qj (by omega)]
      unfold upI
      rw [if_pos h]
      have e : i + (upI step (w2.drop (i + 1)) + 1) = i + 1 + upI step (w2.drop (i + 1)) := by omega
      rw [e]
      exact this
    · refine Rl.f (by rw [decide_eq_true_eq]; exact h) ?_
      unfold upI
      rw [if_neg h]
      exact Rl.pure _
section
variable {w0 : Int} {w1 : List (Int × Int)} {w2 : List Int} (hw : OkW w0 w1 w2) {step : Int} (h0 : 0 ≤ step) (h1 : step ≤ 1000000000)
include hw h0 h1
theorem qwA (hk : w0 = 2) : ∃ s p t r, Rn (fun k => qdA k w0 w1 w2 step) (s, p, t, r) ∧ Fr s p t r (atQ w0 w1 w2 step) ∧ p.length ≤ 40 ∧ r.length ≤ 40 := by
  obtain ⟨g1, g2, g3, g4⟩ : w1.length = 2 ∧ w2.length = 5 ∧ 1 ≤ w2.getD 4 0 ∧ w2.getD 1 0 + w2.getD 2 0 + w2.getD 3 0 ≤ w2.getD 4 0 := by
    rcases hw.kind with g | g | g | g
    · omega
    · exact g.2
    · omega
    · omega
  have v0 := hw.vals 0 (by omega) (by omega)
  have v1 := hw.vals 1 (by omega) (by omega)
  have q0 := hw.steps 0 (by omega) (by omega)
  have q1 := hw.steps 1 (by omega) (by omega)
  have q2 := hw.steps 2 (by omega) (by omega)
  have q3 := hw.steps 3 (by omega) (by omega)
  have q4 := hw.steps 4 (by omega) (by omega)
  obtain ⟨sl, pl, tl', rl, l1, l2, l3, l4⟩ := qdM v0
  obtain ⟨sh, ph, th, rh, m1, m2, m3, m4⟩ := qdM v1
  have eq : atQ w0 w1 w2 step = qgZ (qe6 w1 0) (qe6 w1 1) (w2.getD 0 0) (w2.getD 1 0) (w2.getD 2 0) (w2.getD 3 0) (w2.getD 4 0) step := by
    unfold atQ; rw [if_neg (by omega), if_pos hk]
  rw [eq]
  have r0 := getD_some (l := w2) 0 (show 0 < w2.length by omega)
  have r1 := getD_some (l := w2) 0 (show 1 < w2.length by omega)
  have r2 := getD_some (l := w2) 0 (show 2 < w2.length by omega)
  have r3 := getD_some (l := w2) 0 (show 3 < w2.length by omega)
  have r4 := getD_some (l := w2) 0 (show 4 < w2.length by omega)
  generalize w2.getD 0 0 = s0 at *
  generalize w2.getD 1 0 = s1 at *
  generalize w2.getD 2 0 = s2 at *
  generalize w2.getD 3 0 = s3 at *
  generalize w2.getD 4 0 = s4 at *
  have up : ∀ {s p t r}, Rn (fun k => qgz k w0 w1 w2 step) (s, p, t, r) → Rn (fun k => qdA k w0 w1 w2 step) (s, p, t, r) := fun h => Rn.up (f := fun k => qdA k w0 w1 w2 step) h
  by_cases c0 : step < s0
  · refine ⟨sl, pl, tl', rl, up ?_, l2.cast (by unfold qgZ; rw [if_pos c0]; rfl), by omega, by omega⟩
    exact Rn.at (getD_some (0, 0) (by show 0 < w1.length; omega)) (Rn.at (getD_some (0, 0) (by show 1 < w1.length; omega)) (Rn.at r0 (Rn.t (decide_eq_true c0) (Rn.bind l1 (Rn.pure _)))))
  have et : Int.tmod (IntKind.i64.wrap (step - s0)) s4 = (step - s0) % s4 := by
    rw [qj (by omega)]; exact Int.tmod_eq_emod_of_nonneg (by omega)
  have t0 := Int.emod_nonneg (step - s0) (show s4 ≠ 0 by omega)
  have t1 := Int.emod_lt_of_pos (step - s0) (show 0 < s4 by omega)
  have wr1 : IntKind.i64.wrap (s1 + s2) = s1 + s2 := qj (by omega)
  have wr2 : IntKind.i64.wrap (s1 + s2 + s3) = s1 + s2 + s3 := qj (by omega)
  unfold qgZ
  rw [if_neg c0]
  have pre : ∀ {s p t r}, Rn (fun k => if (decide (Int.tmod (IntKind.i64.wrap (step - s0)) s4 < s1)) = true then _ else _) (s, p, t, r) → Rn (fun k => qgz k w0 w1 w2 step) (s, p, t, r) := fun h =>
    Rn.at (getD_some (0, 0) (by show 0 < w1.length; omega)) (Rn.at (getD_some (0, 0) (by show 1 < w1.length; omega)) (Rn.at r0 (Rn.f (by rw [decide_eq_true_eq]; exact c0) (Rn.at r0 (Rn.at r4 (Rn.f (by omega) (Rn.at r1 h)))))))
  by_cases c1 : (step - s0) % s4 < s1
  · rw [if_pos c1]
    obtain ⟨s, p, t, r, e1, e2, e3, e4⟩ := qhv v0 v1 ((step - s0) % s4) s1 (by omega) (by omega) (by omega)
    refine ⟨s, p, t, r, up (pre (Rn.t (by rw [et]; exact decide_eq_true c1) (Rn.at r1 ?_))), e2, e3, e4⟩
    rw [et]
    exact Rn.bind e1 (Rn.pure _)
  rw [if_neg c1]
  by_cases c2 : (step - s0) % s4 < s1 + s2
  · rw [if_pos c2]
    refine ⟨sh, ph, th, rh, up (pre (Rn.f (by rw [et, decide_eq_true_eq]; exact c1) (Rn.at r1 (Rn.at r2 (Rn.t (by rw [et, wr1]; exact decide_eq_true c2) (Rn.bind m1 (Rn.pure _))))))), m2, by omega, by omega⟩
  rw [if_neg c2]
  by_cases c3 : (step - s0) % s4 < s1 + s2 + s3
  · rw [if_pos c3]
    obtain ⟨s, p, t, r, e1, e2, e3, e4⟩ := qhv v1 v0 ((step - s0) % s4 - s1 - s2) s3 (by omega) (by omega) (by omega)
    refine ⟨s, p, t, r, up (pre (Rn.f (by rw [et, decide_eq_true_eq]; exact c1) (Rn.at r1 (Rn.at r2 (Rn.f (by rw [et, wr1, decide_eq_true_eq]; exact c2) (Rn.at r1 (Rn.at r2 (Rn.at r3 (Rn.t (by rw [et, wr1, wr2]; exact decide_eq_true c3) (Rn.at r1 (Rn.at r2 (Rn.at r3 ?_)))))))))))), e2, e3, e4⟩
    rw [et, qj (x := (step - s0) % s4 - s1) (by omega), qj (by omega)]
    exact Rn.bind e1 (Rn.pure _)
  rw [if_neg c3]
  refine ⟨sl, pl, tl', rl, up (pre (Rn.f (by rw [et, decide_eq_true_eq]; exact c1) (Rn.at r1 (Rn.at r2 (Rn.f (by rw [et, wr1, decide_eq_true_eq]; exact c2) (Rn.at r1 (Rn.at r2 (Rn.at r3 (Rn.f (by rw [et, wr1, wr2, decide_eq_true_eq]; exact c3) (Rn.bind l1 (Rn.pure _))))))))))), l2, by omega, by omega⟩
end
end Go.Proofs.YtbhnafdmilfobaaGreat.Am

/- qt reckoning: what a wave says, the whole. -/
set_option linter.unusedVariables false
set_option linter.unusedSectionVars false
set_option linter.unusedSimpArgs false
set_option maxRecDepth 10000
namespace Go.Proofs.YtbhnafdmilfobaaGreat.Am
open Go
section
variable {w0 : Int} {w1 : List (Int × Int)} {w2 : List Int} (hw : OkW w0 w1 w2) {step : Int} (h0 : 0 ≤ step) (h1 : step ≤ 1000000000)
include hw h0 h1
theorem qBY (hk : w0 = 3) : ∃ s p t r, Rn (fun k => qel k w0 w1 w2 step) (s, p, t, r) ∧ Fr s p t r (atQ w0 w1 w2 step) ∧ p.length ≤ 40 ∧ r.length ≤ 40 := by
  obtain ⟨g1, g2, g3, g4⟩ : w1.length = w2.length ∧ 1 ≤ w1.length ∧ w1.length ≤ 16 ∧ (∀ j, 1 ≤ j → j < w2.length → w2.getD (j - 1) 0 < w2.getD j 0) := by
    rcases hw.kind with g | g | g | g
    · omega
    · omega
    · exact g.2
    · omega
  have eq : atQ w0 w1 w2 step = qrB w1 w2 step (upI step w2) := by
    unfold atQ; rw [if_neg (by omega), if_neg (by omega), if_pos hk]
  rw [eq]
  have lp := qwz step w0 w1 w2 (by omega) w2.length 0 (by omega)
  have hle := qnD step w2
  rw [List.drop_zero, Nat.zero_add] at lp
  have hb := qgt step w2
  have ha := qnE step w2
  generalize upI step w2 = i at *
  have up : ∀ {s p t r}, Rn (fun k => qot k w0 w1 w2 step) (s, p, t, r) → Rn (fun k => qel k w0 w1 w2 step) (s, p, t, r) := fun h => Rn.up (f := fun k => qel k w0 w1 w2 step) h
  unfold qrB
  by_cases c0 : i = 0
  · rw [if_pos c0]
    obtain ⟨s, p, t, r, l1, l2, l3, l4⟩ := qdM (hw.vals 0 (by omega) (by omega))
    refine ⟨s, p, t, r, up (Rn.bind lp.diag (Rn.t (by rw [c0]; rfl) (Rn.at (getD_some (0, 0) (by show 0 < w1.length; omega)) (Rn.bind l1 (Rn.pure _))))), l2, by omega, by omega⟩
  rw [if_neg c0]
  have e1 : (IntKind.i64.wrap ((i : Int) - 1)) = ((i - 1 : Nat) : Int) := by rw [qj (by omega)]; omega
  by_cases c1 : i = w2.length
  · rw [if_pos c1]
    obtain ⟨s, p, t, r, l1, l2, l3, l4⟩ := qdM (hw.vals (i - 1) (by omega) (by omega))
    refine ⟨s, p, t, r, up (Rn.bind lp.diag (Rn.f (by rw [beq_iff_eq]; show ¬ (i : Int) = 0; omega) (Rn.t (by rw [beq_iff_eq]; show (i : Int) = w2.length; omega) ?_))), l2, by omega, by omega⟩
    dsimp only
    rw [e1]
    exact Rn.t (by omega) (Rn.at (getD_some (0, 0) (by rw [Int.toNat_natCast]; omega)) (Rn.bind l1 (Rn.pure _)))
  · rw [if_neg c1]
    have hi : i < w2.length := by omega
    have b1 := hb (i - 1) (by omega)
    have b2 := ha hi
    have q1 := hw.steps (i - 1) (by omega) (by omega)
    have q2 := hw.steps i (by omega) (by omega)
    obtain ⟨s, p, t, r, f1, f2, f3, f4⟩ := qhv (hw.vals (i - 1) (by omega) (by omega)) (hw.vals i (by omega) (by omega)) (step - w2.getD (i - 1) 0) (w2.getD i 0 - w2.getD (i - 1) 0) (by omega) (by omega) (by omega)
    refine ⟨s, p, t, r, up (Rn.bind lp.diag (Rn.f (by rw [beq_iff_eq]; show ¬ (i : Int) = 0; omega) (Rn.f (by rw [beq_iff_eq]; show ¬ (i : Int) = w2.length; omega) ?_))), f2, f3, f4⟩
    dsimp only
    rw [e1]
    refine Rn.t (by omega) (Rn.at (getD_some (0, 0) (by rw [Int.toNat_natCast]; omega)) (Rn.t (by omega) (Rn.at (getD_some (0, 0) (by rw [Int.toNat_natCast]; omega)) (Rn.t (by omega) (Rn.at (getD_some 0 (by rw [Int.toNat_natCast]; omega)) (Rn.t (by omega) (Rn.at (getD_some 0 (by rw [Int.toNat_natCast]; omega)) (Rn.t (by omega) (Rn.at (getD_some 0 (by rw [Int.toNat_natCast]; omega)) ?_)))))))))
    rw [Int.toNat_natCast, Int.toNat_natCast, qj (by omega), qj (by omega)]
    exact Rn.bind f1 (Rn.pure _)
theorem qtN : Rn (fun k => qdB k w0 w1 w2 step) (qqt (atQ w0 w1 w2 step)) := by
  have hl : w1.length ≤ 1000000000000000000 ∧ w2.length ≤ 1000000000000000000 := by
    have := hw.kind; omega
  have hv := qdp w0 w1 w2 hl.1 hl.2
  rw [qfd.2 hw] at hv
  refine Rn.up (f := fun k => qdB k w0 w1 w2 step) (Rn.bind hv (Rn.f (by decide) (Rn.t (by rw [decide_eq_false_iff_not]; omega) (Rn.f (by rw [decide_eq_true_eq]; omega) ?_))))
  by_cases k1 : w0 = 1
  · have hlen : w1.length = 1 := by have := hw.kind; omega
    obtain ⟨s, p, t, r, l1, l2, l3, l4⟩ := qdM (hw.vals 0 (by omega) (by omega))
    have eq : atQ w0 w1 w2 step = qe6 w1 0 := by unfold atQ; rw [if_pos k1]
    rw [eq]
    exact Rn.t (by rw [beq_iff_eq]; exact k1) (Rn.at (getD_some (0, 0) (by show 0 < w1.length; omega)) (Rn.bind l1 (qhw l2 (show p.length ≤ 40 by omega) (show r.length ≤ 40 by omega))))
  refine Rn.f (by rw [beq_iff_eq]; exact k1) ?_
  by_cases k2 : w0 = 2
  · obtain ⟨s, p, t, r, l1, l2, l3, l4⟩ := qwA hw h0 h1 k2
    exact Rn.t (by rw [beq_iff_eq]; exact k2) (Rn.bind l1 (qhw l2 l3 l4))
  refine Rn.f (by rw [beq_iff_eq]; exact k2) ?_
  by_cases k3 : w0 = 3
  · obtain ⟨s, p, t, r, l1, l2, l3, l4⟩ := qBY hw h0 h1 k3
    exact Rn.t (by rw [beq_iff_eq]; exact k3) (Rn.bind l1 (qhw l2 l3 l4))
  refine Rn.f (by rw [beq_iff_eq]; exact k3) ?_
  have k4 : w0 = 4 ∧ 1 ≤ w1.length := by have := hw.kind; omega
  have et : Int.tmod step (w1.length : Int) = step % (w1.length : Int) := Int.tmod_eq_emod_of_nonneg h0
  have t0 := Int.emod_nonneg step (show (w1.length : Int) ≠ 0 by omega)
  have t1 := Int.emod_lt_of_pos step (show 0 < (w1.length : Int) by omega)
  obtain ⟨s, p, t, r, l1, l2, l3, l4⟩ := qdM (hw.vals (step % (w1.length : Int)).toNat (by omega) (by omega))
  have eq : atQ w0 w1 w2 step = qe6 w1 (step % (w1.length : Int)).toNat := by unfold atQ; rw [if_neg k1, if_neg k2, if_neg k3]
  rw [eq]
  refine Rn.f (by omega) ?_
  rw [et]
  exact Rn.t (by omega) (Rn.at (getD_some (0, 0) (by omega)) (Rn.bind l1 (qhw l2 (show p.length ≤ 40 by omega) (show r.length ≤ 40 by omega))))
end
theorem qGW (w0 : Int) (w1 : List (Int × Int)) (w2 : List Int) (step : Int) (h1 : w1.length ≤ 1000000000000000000) (h2 : w2.length ≤ 1000000000000000000) :
    Rn (fun k => qdB k w0 w1 w2 step) (if okW w0 w1 w2 = true then if 0 ≤ step ∧ step ≤ 1000000000 then qqt (atQ w0 w1 w2 step) else (0, 4) else (0, 40)) := by
  by_cases hw : okW w0 w1 w2 = true
  · rw [if_pos hw]
    by_cases hs : 0 ≤ step ∧ step ≤ 1000000000
    · rw [if_pos hs]; exact qtN (qfd.1 hw) hs.1 hs.2
    · rw [if_neg hs]
      refine Rn.up (f := fun k => qdB k w0 w1 w2 step) (Rn.bind (qdp w0 w1 w2 h1 h2) (Rn.f (by simp [hw]) ?_))
      by_cases h : step < 0
      · exact Rn.f (by rw [decide_eq_false_iff_not]; omega) (Rn.pure _)
      · exact Rn.t (by rw [decide_eq_false_iff_not]; omega) (Rn.t (by rw [decide_eq_true_eq]; omega) (Rn.pure _))
  · rw [if_neg hw]
    exact Rn.up (f := fun k => qdB k w0 w1 w2 step) (Rn.bind (qdp w0 w1 w2 h1 h2) (Rn.t (by simp [hw]) (Rn.pure _)))
end Go.Proofs.YtbhnafdmilfobaaGreat.Am

/- qt reckoning: the reference's numbers, and what its waves say. -/
set_option linter.unusedVariables false
set_option linter.unusedSectionVars false
set_option linter.unusedSimpArgs false
set_option maxRecDepth 10000
namespace Go.Proofs.YtbhnafdmilfobaaGreat.Am
open Go
theorem qtO (c : Int) (hc : c ≤ 18) (x0 : Bool) (x1 : Nat) (ms : List Int) : ∀ (n : Nat) (i : Int) (s : Bool) (z : List Int) (p : Int), 0 ≤ i → i + n = c → Nm U s z p → (z.length : Int) ≤ 4 + 4 * i →
    ∃ s' z', Rl (fun k m => qam k m c i x0 x1 s z ms) (x0, x1, s', z', ms) ∧ Nm U s' z' (p * ((10 ^ n : Nat) : Int)) ∧ z'.length ≤ 80 := by
  intro n
  induction n with
  | zero =>
    intro i s z p h0 hi nz hz
    refine ⟨s, z, Rl.up (f := fun k m => qam k m c i x0 x1 s z ms) (Rl.of 0 fun k m _ => ?_), nz.cast (by simp), by omega⟩
    show qcg k (qam k m) _ _ _ _ _ _ _ = _
    unfold qcg
    exact if_neg (by simp; omega)
  | succ n ih =>
    intro i s z p h0 hi nz hz
    obtain ⟨t, t1, t2, t3⟩ := qep 10 (by decide)
    obtain ⟨s1, p1, a1, a2, a3⟩ := qda s _ z t nz t2 (by omega) (by omega)
    obtain ⟨s', z', b1, b2, b3⟩ := ih (i + 1) s1 p1 (p * 10) (by omega) (by omega) a2 (by omega)
    refine ⟨s', z', Rl.up (f := fun k m => qam k m c i x0 x1 s z ms) ?_, b2.cast (by rw [Nat.pow_succ]; grind), b3⟩
    show Rl (fun k m => qcg k (qam k m) _ _ _ _ _ _ _) _
    unfold qcg
    refine Rl.t (decide_eq_true (by omega)) (Rl.bind t1 (Rl.bind a1 ?_))
    rw [qj (by omega)]
    exact b1
theorem qrC (c : Int) (h : 0 ≤ c ∧ c ≤ 18) : ∃ s z, Rn (fun k => qbK k c) (s, z) ∧ Nm U s z ((10 ^ c.toNat : Nat) : Int) ∧ z.length ≤ 80 := by
  obtain ⟨l, a1, a2, a3⟩ := qep 1 (by decide)
  obtain ⟨s, z, c1, c2, c3⟩ := qtO c (by omega) false 0 [] c.toNat 0 _ l 1 (by omega) (by omega) a2 (by omega)
  exact ⟨s, z, Rn.up (f := fun k => qbK k c) (Rn.bind a1 (Rn.bind c1.diag (Rn.pure _))), c2.cast (by simp), c3⟩
theorem qfB {m e : Int} (h : okN m e = true) : ∃ s p t r, Rn (fun k => qak k m e) (s, p, t, r) ∧ FrU s p t r (qfA m e) ∧ p.length ≤ 90 ∧ r.length ≤ 90 := by
  have hr := qsq h
  obtain ⟨l, b1, b2, b3⟩ := qhu m (by omega)
  have up : ∀ {q}, Rn (fun k => qgU k m e) q → Rn (fun k => qak k m e) q := fun h => Rn.up (f := fun k => qak k m e) h
  by_cases he : e < 0
  · obtain ⟨s1, z1, a1, a2, a3⟩ := qrC (-e) (by omega)
    have hpos := qoA (-e).toNat
    obtain ⟨s, p, t, r, c1, c2, c3, c4⟩ := qf2 _ _ l z1 b2 a2 (by omega) (by omega) (by omega)
    refine ⟨s, p, t, r, up (Rn.bind b1 (Rn.t (decide_eq_true he) ?_)), c2.cast (by rw [qfA, if_pos he]), by omega, by omega⟩
    rw [qj (by omega), show 0 - e = -e by omega]
    exact Rn.bind a1 (Rn.bind c1 (Rn.pure _))
  · obtain ⟨s1, z1, a1, a2, a3⟩ := qrC e (by omega)
    obtain ⟨s2, p2, d1, d2, d3⟩ := qda _ s1 l z1 b2 a2 (by omega) (by omega)
    obtain ⟨o, o1, o2, o3⟩ := qep 1 (by decide)
    refine ⟨s2, p2, _, o, up (Rn.bind b1 (Rn.f (by rw [decide_eq_true_eq]; exact he) (Rn.bind a1 (Rn.bind d1 (Rn.bind o1 (Rn.pure _)))))), (qsr d2 o2).cast (by rw [qfA, if_neg he, Int.mul_comm]), by omega, by omega⟩
theorem qlt {a0 a1 b0 b1 : Int} (ha : okN a0 a1 = true) (hb : okN b0 b1 = true) (k0 n : Int) (hk : -9223372036854775808 ≤ k0 ∧ k0 ≤ 9223372036854775807) (hn : -9223372036854775808 ≤ n ∧ n ≤ 9223372036854775807) (h0 : n ≠ 0) :
    ∃ s p t r, Rn (fun k => qa8 k a0 a1 b0 b1 k0 n) (s, p, t, r) ∧ FrU s p t r (qok (qfA a0 a1) (qfA b0 b1) k0 n) ∧ p.length ≤ 500 ∧ r.length ≤ 500 := by
  obtain ⟨s1, p1, t1, r1, a1', a2, a3, a4⟩ := qfB ha
  obtain ⟨s2, p2, t2, r2, b1', b2, b3, b4⟩ := qfB hb
  obtain ⟨s3, p3, t3, r3, c1, c2, c3, c4⟩ := qnC k0 hk
  obtain ⟨s4, p4, t4, r4, d1, d2, d3, d4⟩ := qnC n hn
  have en : Rat.divInt n 1 = (n : Rat) := Rat.num_divInt_den (n : Rat)
  have hn0 : Rat.divInt n 1 ≠ 0 := by
    rw [en]
    intro h
    exact h0 (by have := congrArg Rat.num h; simpa using this)
  obtain ⟨s5, p5, t5, r5, e1, e2, e3, e4⟩ := qwx c2 d2 (by omega) (by omega) (by omega) (by omega) hn0
  obtain ⟨s6, p6, t6, r6, f1, f2, f3, f4⟩ := qnC 1 (by decide)
  obtain ⟨s7, p7, t7, r7, g1, g2, g3, g4⟩ := qwy f2 e2 (by omega) (by omega) (by omega) (by omega)
  obtain ⟨s8, p8, t8, r8, h1, h2, h3, h4⟩ := qiP a2 g2 (by omega) (by omega) (by omega) (by omega)
  obtain ⟨s9, p9, t9, r9, i1, i2, i3, i4⟩ := qiP b2 e2 (by omega) (by omega) (by omega) (by omega)
  obtain ⟨s, p, t, r, j1, j2, j3, j4⟩ := qrA h2 i2 (by omega) (by omega) (by omega) (by omega)
  refine ⟨s, p, t, r, Rn.up (f := fun k => qa8 k a0 a1 b0 b1 k0 n) (Rn.bind a1' (Rn.bind b1' (Rn.bind c1 (Rn.bind d1 (Rn.bind e1 (Rn.bind f1 (Rn.bind g1 (Rn.bind h1 (Rn.bind i1 (Rn.bind j1 (Rn.pure _))))))))))), j2.cast ?_, by omega, by omega⟩
  have ek : Rat.divInt k0 1 = (k0 : Rat) := Rat.num_divInt_den (k0 : Rat)
  have e1 : Rat.divInt 1 1 = 1 := by decide +kernel
  unfold qok
  rw [en, ek, e1, Rat.divInt_eq_div]
  generalize (k0 : Rat) / (n : Rat) = v
  grind
theorem qyt {w2 : List Int} (h : ∀ j, 1 ≤ j → j < w2.length → w2.getD (j - 1) 0 < w2.getD j 0) : ∀ j, j < w2.length → w2.getD 0 0 ≤ w2.getD j 0 := by
  intro j
  induction j with
  | zero => intro _; exact Int.le_refl _
  | succ j ih =>
    intro hj
    have a := ih (by omega)
    have b := h (j + 1) (by omega) hj
    simp only [Nat.add_sub_cancel] at b
    omega
section
variable {w0 : Int} {w1 : List (Int × Int)} {w2 : List Int} {step : Int} {x0 x2 : Bool} {x1 x3 : Nat} {m m1 : List Int} (hl : w2.length ≤ 16)
include hl
theorem qoC {i : Nat} (h1 : 1 ≤ i) (hi : i < w2.length) (hc : ¬ (w2.getD (i - 1) 0 ≤ step ∧ step < w2.getD i 0)) {o} (ho : Rl (fun k n => qL k n step w2 ((i : Int) + 1) w0 w1 w2 x0 x1 x2 x3 m m1) o) :
    Rl (fun k n => qL k n step w2 i w0 w1 w2 x0 x1 x2 x3 m m1) o := by
  refine Rl.up (f := fun k n => qL k n step w2 i w0 w1 w2 x0 x1 x2 x3 m m1) ?_
  show Rl (fun k n => qbi k (qL k n) _ _ _ _ _ _ _ _ _ _ _ _) _
  unfold qbi
  have e1 : (IntKind.i64.wrap ((i : Int) - 1)) = ((i - 1 : Nat) : Int) := by rw [qj (by omega)]; omega
  rw [e1, qj (x := (i : Int) + 1) (by omega)]
  refine Rl.t (decide_eq_true (by omega)) (Rl.t (by omega) (Rl.at (getD_some 0 (by rw [Int.toNat_natCast]; omega)) ?_))
  rw [Int.toNat_natCast, Int.toNat_natCast]
  by_cases c : step ≥ w2.getD (i - 1) 0
  · exact Rl.t (decide_eq_true c) (Rl.t (by omega) (Rl.at (getD_some 0 hi) (Rl.f (by rw [decide_eq_true_eq]; omega) ho)))
  · exact Rl.f (by rw [decide_eq_true_eq]; exact c) ho
theorem qrD (hc : ∀ j, 1 ≤ j → j < w2.length → ¬ (w2.getD (j - 1) 0 ≤ step ∧ step < w2.getD j 0)) : ∀ d i : Nat, 1 ≤ i → i + d = w2.length → Rl (fun k n => qL k n step w2 i w0 w1 w2 x0 x1 x2 x3 m m1) (.inr (step, w2, w0, w1, w2, x0, x1, x2, x3, m, m1)) := by
  intro d
  induction d with
  | zero =>
    intro i h1 hi
    refine Rl.up (f := fun k n => qL k n step w2 i w0 w1 w2 x0 x1 x2 x3 m m1) (Rl.of 0 fun k n _ => ?_)
    show qbi k (qL k n) _ _ _ _ _ _ _ _ _ _ _ _ = _
    unfold qbi
    exact if_neg (by simp; omega)
  | succ d ih =>
    intro i h1 hi
    exact qoC hl h1 (by omega) (hc i h1 (by omega)) (ih (i + 1) (by omega) (by omega))
theorem qwB {I : Nat} (hI : I < w2.length) (hlen : w1.length = w2.length) (hI1 : 1 ≤ I) (hr : ∀ j, 0 ≤ j → j < w2.length → 0 ≤ w2.getD j 0 ∧ w2.getD j 0 ≤ 1000000000) (h0 : 0 ≤ step ∧ step ≤ 1000000000) (ht : w2.getD (I - 1) 0 ≤ step ∧ step < w2.getD I 0) (hc : ∀ j, 1 ≤ j → j < I → ¬ (w2.getD (j - 1) 0 ≤ step ∧ step < w2.getD j 0)) {s t : Bool} {p r : List Int}
    (hln : Rn (fun k => qa8 k (w1.getD (I - 1) (0, 0)).1 (w1.getD (I - 1) (0, 0)).2 (w1.getD I (0, 0)).1 (w1.getD I (0, 0)).2 (step - w2.getD (I - 1) 0) (w2.getD I 0 - w2.getD (I - 1) 0)) (s, p, t, r)) :
    ∀ d i : Nat, 1 ≤ i → i + d = I → Rl (fun k n => qL k n step w2 i w0 w1 w2 x0 x1 x2 x3 m m1) (.inl (w0, w1, w2, s, p, t, r, m, m1)) := by
  intro d
  induction d with
  | zero =>
    intro i h1 hi
    obtain rfl : i = I := by omega
    refine Rl.up (f := fun k n => qL k n step w2 i w0 w1 w2 x0 x1 x2 x3 m m1) ?_
    show Rl (fun k n => qbi k (qL k n) _ _ _ _ _ _ _ _ _ _ _ _) _
    unfold qbi
    have e1 : (IntKind.i64.wrap ((i : Int) - 1)) = ((i - 1 : Nat) : Int) := by rw [qj (by omega)]; omega
    have q1 := hr (i - 1) (by omega) (by omega)
    have q2 := hr i (by omega) (by omega)
    rw [e1]
    refine Rl.t (decide_eq_true (by omega)) (Rl.t (by omega) (Rl.at (getD_some 0 (by rw [Int.toNat_natCast]; omega)) ?_))
    rw [Int.toNat_natCast, Int.toNat_natCast]
    refine Rl.t (decide_eq_true ht.1) (Rl.t (by omega) (Rl.at (getD_some 0 hI) (Rl.t (decide_eq_true ht.2) (Rl.t (by omega) (Rl.at (getD_some (0, 0) (by omega)) (Rl.t (by omega) (Rl.at (getD_some (0, 0) (by omega)) (Rl.t (by omega) (Rl.at (getD_some 0 (by omega)) (Rl.t (by omega) (Rl.at (getD_some 0 (by omega)) (Rl.t (by omega) (Rl.at (getD_some 0 (by omega)) ?_)))))))))))))
    rw [qj (by omega), qj (by omega)]
    exact Rl.bind hln (Rl.pure _)
  | succ d ih =>
    intro i h1 hi
    exact qoC hl h1 (by omega) (hc i h1 (by omega)) (ih (i + 1) (by omega) (by omega))
end
end Go.Proofs.YtbhnafdmilfobaaGreat.Am

/- qt reckoning: what the reference says of a wave at a step. -/
set_option linter.unusedVariables false
set_option linter.unusedSectionVars false
set_option linter.unusedSimpArgs false
set_option maxRecDepth 10000
namespace Go.Proofs.YtbhnafdmilfobaaGreat.Am
open Go
section
variable {w0 : Int} {w1 : List (Int × Int)} {w2 : List Int} (hw : OkW w0 w1 w2) {step : Int} (h0 : 0 ≤ step) (h1 : step ≤ 1000000000)
include hw h0 h1
theorem qwC (hk : w0 = 2) : ∃ s p t r, Rn (fun k => qad k w0 w1 w2 step) (s, p, t, r) ∧ FrU s p t r (atQ w0 w1 w2 step) ∧ p.length ≤ 500 ∧ r.length ≤ 500 := by
  obtain ⟨g1, g2, g3, g4⟩ : w1.length = 2 ∧ w2.length = 5 ∧ 1 ≤ w2.getD 4 0 ∧ w2.getD 1 0 + w2.getD 2 0 + w2.getD 3 0 ≤ w2.getD 4 0 := by
    rcases hw.kind with g | g | g | g
    · omega
    · exact g.2
    · omega
    · omega
  have v0 := hw.vals 0 (by omega) (by omega)
  have v1 := hw.vals 1 (by omega) (by omega)
  have q0 := hw.steps 0 (by omega) (by omega)
  have q1 := hw.steps 1 (by omega) (by omega)
  have q2 := hw.steps 2 (by omega) (by omega)
  have q3 := hw.steps 3 (by omega) (by omega)
  have q4 := hw.steps 4 (by omega) (by omega)
  obtain ⟨sl, pl, tl', rl, l1, l2, l3, l4⟩ := qfB v0
  obtain ⟨sh, ph, th, rh, m1, m2, m3, m4⟩ := qfB v1
  have eq : atQ w0 w1 w2 step = qgZ (qe6 w1 0) (qe6 w1 1) (w2.getD 0 0) (w2.getD 1 0) (w2.getD 2 0) (w2.getD 3 0) (w2.getD 4 0) step := by
    unfold atQ; rw [if_neg (by omega), if_pos hk]
  rw [eq]
  have r0 := getD_some (l := w2) 0 (show 0 < w2.length by omega)
  have r1 := getD_some (l := w2) 0 (show 1 < w2.length by omega)
  have r2 := getD_some (l := w2) 0 (show 2 < w2.length by omega)
  have r3 := getD_some (l := w2) 0 (show 3 < w2.length by omega)
  have r4 := getD_some (l := w2) 0 (show 4 < w2.length by omega)
  have a0 := getD_some (l := w1) (0, 0) (show 0 < w1.length by omega)
  have a1 := getD_some (l := w1) (0, 0) (show 1 < w1.length by omega)
  generalize w2.getD 0 0 = s0 at *
  generalize w2.getD 1 0 = s1 at *
  generalize w2.getD 2 0 = s2 at *
  generalize w2.getD 3 0 = s3 at *
  generalize w2.getD 4 0 = s4 at *
  have up : ∀ {q}, Rn (fun k => qe4 k w0 w1 w2 step) q → Rn (fun k => qad k w0 w1 w2 step) q := fun h => Rn.up (f := fun k => qad k w0 w1 w2 step) h
  have hb : (w0 == (2 : Int)) = true := by rw [beq_iff_eq]; exact hk
  have ws : IntKind.i64.wrap (step - s0) = step - s0 := qj (by omega)
  unfold qgZ
  by_cases c0 : step < s0
  · refine ⟨sl, pl, tl', rl, up (Rn.t hb (Rn.at r0 (Rn.t (by rw [ws]; exact decide_eq_true (by omega)) (Rn.at a0 (Rn.bind l1 (Rn.pure _)))))), l2.cast (by rw [if_pos c0]; rfl), by omega, by omega⟩
  have et : Int.tmod (step - s0) s4 = (step - s0) % s4 := Int.tmod_eq_emod_of_nonneg (by omega)
  have t0 := Int.emod_nonneg (step - s0) (show s4 ≠ 0 by omega)
  have t1 := Int.emod_lt_of_pos (step - s0) (show 0 < s4 by omega)
  have wr1 : IntKind.i64.wrap (s1 + s2) = s1 + s2 := qj (by omega)
  have wr2 : IntKind.i64.wrap (s1 + s2 + s3) = s1 + s2 + s3 := qj (by omega)
  rw [if_neg c0]
  have pre : ∀ {q}, Rn (fun k => if (decide (Int.tmod (IntKind.i64.wrap (step - s0)) s4 < s1)) = true then _ else _) q → Rn (fun k => qad k w0 w1 w2 step) q := fun h =>
    up (Rn.t hb (Rn.at r0 (Rn.f (by rw [ws, decide_eq_true_eq]; omega) (Rn.at r4 (Rn.f (by omega) (Rn.at r1 (Rn.at r1 (Rn.at r2 (Rn.at r1 (Rn.at r2 (Rn.at r3 h)))))))))))
  by_cases c1 : (step - s0) % s4 < s1
  · rw [if_pos c1]
    obtain ⟨s, p, t, r, e1, e2, e3, e4⟩ := qlt v0 v1 ((step - s0) % s4) s1 (by omega) (by omega) (by omega)
    refine ⟨s, p, t, r, pre (Rn.t (by rw [ws, et]; exact decide_eq_true c1) (Rn.at a0 (Rn.at a1 ?_))), e2, e3, e4⟩
    rw [ws, et]
    exact Rn.bind e1 (Rn.pure _)
  rw [if_neg c1]
  by_cases c2 : (step - s0) % s4 < s1 + s2
  · rw [if_pos c2]
    exact ⟨sh, ph, th, rh, pre (Rn.f (by rw [ws, et, decide_eq_true_eq]; exact c1) (Rn.t (by rw [ws, et, wr1]; exact decide_eq_true c2) (Rn.at a1 (Rn.bind m1 (Rn.pure _))))), m2, by omega, by omega⟩
  rw [if_neg c2]
  by_cases c3 : (step - s0) % s4 < s1 + s2 + s3
  · rw [if_pos c3]
    obtain ⟨s, p, t, r, e1, e2, e3, e4⟩ := qlt v1 v0 ((step - s0) % s4 - s1 - s2) s3 (by omega) (by omega) (by omega)
    refine ⟨s, p, t, r, pre (Rn.f (by rw [ws, et, decide_eq_true_eq]; exact c1) (Rn.f (by rw [ws, et, wr1, decide_eq_true_eq]; exact c2) (Rn.t (by rw [ws, et, wr1, wr2]; exact decide_eq_true c3) (Rn.at a1 (Rn.at a0 ?_))))), e2, e3, e4⟩
    rw [ws, et, wr1, wr2, qj (x := (step - s0) % s4 - (s1 + s2)) (by omega), qj (x := s1 + s2 + s3 - (s1 + s2)) (by omega), show (step - s0) % s4 - (s1 + s2) = (step - s0) % s4 - s1 - s2 by omega, show s1 + s2 + s3 - (s1 + s2) = s3 by omega]
    exact Rn.bind e1 (Rn.pure _)
  rw [if_neg c3]
  exact ⟨sl, pl, tl', rl, pre (Rn.f (by rw [ws, et, decide_eq_true_eq]; exact c1) (Rn.f (by rw [ws, et, wr1, decide_eq_true_eq]; exact c2) (Rn.f (by rw [ws, et, wr1, wr2, decide_eq_true_eq]; exact c3) (Rn.at a0 (Rn.bind l1 (Rn.pure _)))))), l2, by omega, by omega⟩
theorem qwD (hk : w0 = 3) : ∃ s p t r, Rn (fun k => qad k w0 w1 w2 step) (s, p, t, r) ∧ FrU s p t r (atQ w0 w1 w2 step) ∧ p.length ≤ 500 ∧ r.length ≤ 500 := by
  obtain ⟨g1, g2, g3, g4⟩ : w1.length = w2.length ∧ 1 ≤ w1.length ∧ w1.length ≤ 16 ∧ (∀ j, 1 ≤ j → j < w2.length → w2.getD (j - 1) 0 < w2.getD j 0) := by
    rcases hw.kind with g | g | g | g
    · omega
    · omega
    · exact g.2
    · omega
  have eq : atQ w0 w1 w2 step = qrB w1 w2 step (upI step w2) := by
    unfold atQ; rw [if_neg (by omega), if_neg (by omega), if_pos hk]
  rw [eq]
  have hle := qnD step w2
  have hb := qgt step w2
  have ha := qnE step w2
  have hm := qyt g4
  generalize upI step w2 = I at *
  have up : ∀ {q}, Rn (fun k => qe4 k w0 w1 w2 step) q → Rn (fun k => qad k w0 w1 w2 step) q := fun h => Rn.up (f := fun k => qad k w0 w1 w2 step) h
  have n2 : ¬ (w0 == (2 : Int)) = true := by rw [beq_iff_eq]; omega
  have y3 : (w0 == (3 : Int)) = true := by rw [beq_iff_eq]; exact hk
  unfold qrB
  by_cases c0 : I = 0
  · subst c0
    rw [if_pos rfl]
    have hs := ha (by omega)
    obtain ⟨s, p, t, r, l1, l2, l3, l4⟩ := qfB (hw.vals 0 (by omega) (by omega))
    have lp := qrD (w0 := w0) (w1 := w1) (step := step) (x0 := false) (x2 := false) (x1 := 0) (x3 := 0) (m := []) (m1 := []) (show w2.length ≤ 16 by omega) (fun j j1 j2 c => by have := hm (j - 1) (by omega); omega) (w2.length - 1) 1 (by omega) (by omega)
    exact ⟨s, p, t, r, up (Rn.f n2 (Rn.t y3 (Rn.bind lp.diag (Rn.at (getD_some 0 (show 0 < w2.length by omega)) (Rn.t (decide_eq_true hs) (Rn.at (getD_some (0, 0) (show 0 < w1.length by omega)) (Rn.bind l1 (Rn.pure _)))))))), l2, by omega, by omega⟩
  rw [if_neg c0]
  have hs0 := hb 0 (by omega)
  by_cases c1 : I = w2.length
  · rw [if_pos c1]
    obtain ⟨s, p, t, r, l1, l2, l3, l4⟩ := qfB (hw.vals (I - 1) (by omega) (by omega))
    have lp := qrD (w0 := w0) (w1 := w1) (step := step) (x0 := false) (x2 := false) (x1 := 0) (x3 := 0) (m := []) (m1 := []) (show w2.length ≤ 16 by omega) (fun j j1 j2 c => by have := hb j (by omega); omega) (w2.length - 1) 1 (by omega) (by omega)
    refine ⟨s, p, t, r, up (Rn.f n2 (Rn.t y3 (Rn.bind lp.diag (Rn.at (getD_some 0 (show 0 < w2.length by omega)) (Rn.f (by rw [decide_eq_true_eq]; show ¬ step < w2.getD 0 0; omega) ?_))))), l2, by omega, by omega⟩
    dsimp only
    have e1 : (IntKind.i64.wrap ((w2.length : Int) - 1)) = ((I - 1 : Nat) : Int) := by rw [qj (by omega)]; omega
    rw [e1]
    exact Rn.t (by omega) (Rn.at (getD_some (0, 0) (by rw [Int.toNat_natCast]; omega)) (Rn.bind l1 (Rn.pure _)))
  · rw [if_neg c1]
    have b1 := hb (I - 1) (by omega)
    have b2 := ha (by omega)
    have q1 := hw.steps (I - 1) (by omega) (by omega)
    have q2 := hw.steps I (by omega) (by omega)
    obtain ⟨s, p, t, r, f1, f2, f3, f4⟩ := qlt (hw.vals (I - 1) (by omega) (by omega)) (hw.vals I (by omega) (by omega)) (step - w2.getD (I - 1) 0) (w2.getD I 0 - w2.getD (I - 1) 0) (by omega) (by omega) (by omega)
    have lp := qwB (w0 := w0) (w1 := w1) (x0 := false) (x2 := false) (x1 := 0) (x3 := 0) (m := []) (m1 := []) (show w2.length ≤ 16 by omega) (show I < w2.length by omega) g1 (by omega) hw.steps ⟨h0, h1⟩ ⟨b1, b2⟩ (fun j j1 j2 c => by have := hb j (by omega); omega) f1 (I - 1) 1 (by omega) (by omega)
    exact ⟨s, p, t, r, up (Rn.f n2 (Rn.t y3 (Rn.bind lp.diag (Rn.pure _)))), f2, f3, f4⟩
theorem qyu : ∃ s p t r, Rn (fun k => qad k w0 w1 w2 step) (s, p, t, r) ∧ FrU s p t r (atQ w0 w1 w2 step) ∧ p.length ≤ 500 ∧ r.length ≤ 500 := by
  by_cases k2 : w0 = 2
  · exact qwC hw h0 h1 k2
  by_cases k3 : w0 = 3
  · exact qwD hw h0 h1 k3
  have hlen : 1 ≤ w1.length ∧ w1.length ≤ 16 := by have := hw.kind; omega
  have et : Int.tmod step (w1.length : Int) = step % (w1.length : Int) := Int.tmod_eq_emod_of_nonneg h0
  have t0 := Int.emod_nonneg step (show (w1.length : Int) ≠ 0 by omega)
  have t1 := Int.emod_lt_of_pos step (show 0 < (w1.length : Int) by omega)
  obtain ⟨s, p, t, r, l1, l2, l3, l4⟩ := qfB (hw.vals (step % (w1.length : Int)).toNat (by omega) (by omega))
  have eq : atQ w0 w1 w2 step = qe6 w1 (step % (w1.length : Int)).toNat := by
    unfold atQ
    by_cases k1 : w0 = 1
    · have e1 : w1.length = 1 := by have := hw.kind; omega
      rw [if_pos k1, e1]
      congr 1
      omega
    · rw [if_neg k1, if_neg k2, if_neg k3]
  refine ⟨s, p, t, r, Rn.up (f := fun k => qad k w0 w1 w2 step) (Rn.f (by rw [beq_iff_eq]; exact k2) (Rn.f (by rw [beq_iff_eq]; exact k3) (Rn.f (by omega) ?_))), l2.cast eq.symm, by omega, by omega⟩
  rw [et]
  exact Rn.t (by omega) (Rn.at (getD_some (0, 0) (by omega)) (Rn.bind l1 (Rn.pure _)))
end
theorem qBZ (w0 : Int) (w1 : List (Int × Int)) (w2 : List Int) (step : Int) (h1 : w1.length ≤ 1000000000000000000) (h2 : w2.length ≤ 1000000000000000000) :
    Rn (fun k => qdm k w0 w1 w2 step) (if okW w0 w1 w2 = true then if 0 ≤ step ∧ step ≤ 1000000000 then qqt (atQ w0 w1 w2 step) else (0, 4) else (0, 40)) := by
  refine Rn.up (f := fun k => qdm k w0 w1 w2 step) (Rn.bind (qfr w0 w1 w2 h1 h2) ?_)
  by_cases hw : okW w0 w1 w2 = true
  · rw [if_pos hw]
    refine Rn.f (by simp [hw]) ?_
    by_cases hs : 0 ≤ step ∧ step ≤ 1000000000
    · rw [if_pos hs]
      obtain ⟨s, p, t, r, a1, a2, a3, a4⟩ := qyu (qfd.1 hw) hs.1 hs.2
      obtain ⟨s1, p1, t1, r1, b1, b2, b3, b4⟩ := qnC 1000000000 (by decide)
      obtain ⟨s2, p2, t2, r2, c1, c2, c3, c4⟩ := qiP a2 b2 (by omega) (by omega) (by omega) (by omega)
      have hB : Rn (fun k => qbM k s p t r) (s2, p2, t2, r2) := Rn.up (f := fun k => qbM k s p t r) (Rn.bind b1 (Rn.bind c1 (Rn.pure _)))
      have hG := qwt c2.1 c2.2 (Rat.den_pos' _) (by omega) (by omega)
      exact Rn.t (by rw [decide_eq_false_iff_not]; omega) (Rn.f (by rw [decide_eq_true_eq]; omega) (Rn.bind a1 (Rn.bind hB (Rn.bind hG (Rn.pure _)))))
    · rw [if_neg hs]
      by_cases h : step < 0
      · exact Rn.f (by rw [decide_eq_false_iff_not]; omega) (Rn.pure _)
      · exact Rn.t (by rw [decide_eq_false_iff_not]; omega) (Rn.t (by rw [decide_eq_true_eq]; omega) (Rn.pure _))
  · rw [if_neg hw]
    exact Rn.t (by simp [hw]) (Rn.pure _)
end Go.Proofs.YtbhnafdmilfobaaGreat.Am

/- The fixed fact that every law asks first. -/
namespace Go.Proofs.YtbhnafdmilfobaaGreat.Am
theorem quO (j : Nat) : qcj (j + 60) = some true := by kernel_rfl
theorem quP : Rn (fun k => qcj k) true := Rn.eq 60 fun k hk => by
  obtain ⟨j, rfl⟩ : ∃ j, k = j + 60 := ⟨k - 60, by omega⟩
  exact quO j
end Go.Proofs.YtbhnafdmilfobaaGreat.Am

/- The law WaveAgain in plain words. -/
set_option linter.unusedVariables false
set_option linter.unusedSectionVars false
set_option linter.unusedSimpArgs false
set_option maxRecDepth 10000
namespace Go.Proofs.YtbhnafdmilfobaaGreat.Am
open Go
abbrev cdW : Cd := .pr (.int .i64) (.pr (.sl (.pr (.int .i64) (.int .i64))) (.sl (.int .i64)))
end Go.Proofs.YtbhnafdmilfobaaGreat.Am

/- The law WaveFlat in plain words. -/
set_option linter.unusedVariables false
set_option linter.unusedSectionVars false
set_option linter.unusedSimpArgs false
set_option maxRecDepth 10000
namespace Go.Proofs.YtbhnafdmilfobaaGreat.Am
open Go
theorem qB0 {w : Int × List (Int × Int) × List Int} (h : Wfd cdW w) : w.2.1.length * 16 ≤ 140737488351232 ∧ w.2.2.length * 8 ≤ 140737488351232 := by
  obtain ⟨_, ⟨⟨a, ra⟩, _⟩, ⟨b, rb⟩, _⟩ := h
  have ra : w.2.1.length * 16 ≤ reachBytes := ra
  have rb : w.2.2.length * 8 ≤ reachBytes := rb
  unfold reachBytes at ra rb
  omega
theorem qwE (w0 : Int) (w1 : List (Int × Int)) (w2 : List Int) (h1 : w1.length * 16 ≤ 140737488351232) (h2 : w2.length * 8 ≤ 140737488351232) :
    Rn (fun k => qcN k w0 w1 w2) (w0, w1.length, w2.length, w1 ++ [(77, 0)], w2 ++ [-77]) := by
  refine Rn.up (f := fun k => qcN k w0 w1 w2) (Rn.eq 0 fun k _ => ?_)
  show qe3 k w0 w1 w2 = _
  unfold qe3
  have e1 : List.take (0 + w1.length) (List.take 0 [] ++ w1) = w1 := by simp
  have e2 : List.take (0 + w2.length) (List.take 0 [] ++ w2) = w2 := by simp
  rw [e1, e2]
  rw [if_pos (by omega), if_pos (by simp), if_pos (by omega), if_pos (by simp), if_pos (by omega), if_pos (by simp), if_pos (by omega), if_pos (by simp)]
  simp
end Go.Proofs.YtbhnafdmilfobaaGreat.Am

/- qt reckoning: the next corner of a wave. -/
set_option linter.unusedVariables false
set_option linter.unusedSectionVars false
set_option linter.unusedSimpArgs false
set_option maxRecDepth 10000
namespace Go.Proofs.YtbhnafdmilfobaaGreat.Am
open Go

def qeM (step : Int) (l : List Int) : Option Int := l.find? fun c => decide (step < c ∧ c ≤ 1000000000)
def qnF : Option Int → Int × Bool
  | some c => (c, true)
  | none => (0, false)
def qGX : Option Int → (Int × Bool) ⊕ Unit
  | some c => .inl (c, true)
  | none => .inr ()
theorem qnG (step : Int) (l : List Int) (hl : l.length ≤ 1000000000000000000) : ∀ d i : Nat, i + d = l.length → Rl (fun k n => qbw k n step l l.length i) (qGX (qeM step (l.drop i))) := by
  intro d
  induction d with
  | zero =>
    intro i hi
    refine Rl.up (f := fun k n => qbw k n step l l.length i) (Rl.of 0 fun k n _ => ?_)
    show qdU k (qbw k n) _ _ _ _ = _
    unfold qdU
    rw [List.drop_of_length_le (by omega)]
    exact if_neg (by simp; omega)
  | succ d ih =>
    intro i hi
    refine Rl.up (f := fun k n => qbw k n step l l.length i) ?_
    show Rl (fun k n => qdU k (qbw k n) _ _ _ _) _
    unfold qdU
    have hd : l.drop i = l.getD i 0 :: l.drop (i + 1) := by rw [List.drop_eq_getElem_cons (by omega)]; simp [List.getD, show i < l.length by omega]
    have wr : IntKind.i64.wrap ((i : Int) + 1) = ((i + 1 : Nat) : Int) := by rw [qj (by omega)]; rfl
    refine Rl.t (decide_eq_true (by omega)) (Rl.t (by omega) (Rl.at (getD_some 0 (by omega)) ?_))
    rw [Int.toNat_natCast, hd, wr]
    unfold qeM
    by_cases h1 : step < l.getD i 0
    · by_cases h2 : l.getD i 0 ≤ 1000000000
      · rw [List.find?_cons_of_pos (by exact decide_eq_true ⟨h1, h2⟩)]
        exact Rl.t (decide_eq_true h1) (Rl.t (decide_eq_true h2) (Rl.pure _))
      · rw [List.find?_cons_of_neg (by simp only [decide_eq_true_eq]; omega)]
        exact Rl.t (decide_eq_true h1) (Rl.f (by rw [decide_eq_true_eq]; exact h2) (ih (i + 1) (by omega)))
    · rw [List.find?_cons_of_neg (by simp only [decide_eq_true_eq]; omega)]
      exact Rl.f (by rw [decide_eq_true_eq]; exact h1) (ih (i + 1) (by omega))
def qhx (b s1 s2 s3 s4 : Int) : List Int := [b, b + s1, b + s1 + s2, b + s1 + s2 + s3, b + s4, b + s4 + s1, b + s4 + s1 + s2, b + s4 + s1 + s2 + s3]
theorem qoD {w2 : List Int} {s1 s2 s3 s4 b : Int} (r1 : w2[1]? = some s1) (r2 : w2[2]? = some s2) (r3 : w2[3]? = some s3) (r4 : w2[4]? = some s4)
    (hb : 0 ≤ b ∧ b ≤ 2000000000) (h1 : 0 ≤ s1 ∧ s1 ≤ 1000000000) (h2 : 0 ≤ s2 ∧ s2 ≤ 1000000000) (h3 : 0 ≤ s3 ∧ s3 ≤ 1000000000) (h4 : 0 ≤ s4 ∧ s4 ≤ 1000000000) :
    Rl (fun k n => qaO k n w2 b 0 0 []) (8, qhx b s1 s2 s3 s4) := by
  have step : ∀ (k n : Nat) (a : Int) (ls : List Int) (x : Int), (x = 0 ∨ x = 1) → ls.length ≤ 100 → 0 ≤ a ∧ a ≤ 4000000000 → qaO k (n + 1) w2 a ls.length x ls = qaO k n w2 (a + s4) (ls ++ [a, a + s1, a + s1 + s2, a + s1 + s2 + s3]).length (x + 1) (ls ++ [a, a + s1, a + s1 + s2, a + s1 + s2 + s3]) := by
    intro k n a ls x hx hl ha
    show qdn k (qaO k n) _ _ _ _ _ = _
    unfold qdn
    rw [if_pos (decide_eq_true (by omega))]
    simp only [r1, r2, r3, r4, Option.bind_some]
    rw [qj (x := a + s1) (by omega), qj (x := a + s1 + s2) (by omega), qj (x := a + s1 + s2 + s3) (by omega), qj (x := a + s4) (by omega), qj (x := x + 1) (by omega)]
    rw [if_pos (by omega), if_pos (by simp; omega)]
    simp
  refine ⟨3, fun k n hk hn => ?_⟩
  obtain ⟨n, rfl⟩ : ∃ m, n = m + 1 + 1 + 1 := ⟨n - 3, by omega⟩
  have e1 := step k (n + 1 + 1) b [] 0 (by omega) (by simp) (by omega)
  have e2 := step k (n + 1) (b + s4) [b, b + s1, b + s1 + s2, b + s1 + s2 + s3] 1 (by omega) (by simp) (by omega)
  refine e1.trans (e2.trans ?_)
  show qdn k (qaO k n) _ _ _ _ _ = _
  unfold qdn
  exact if_neg (by decide)
def qcq (s0 s4 step : Int) : Int := if step > s0 then s0 + (step - s0) / s4 * s4 else s0
def qfQ (b s1 s2 s3 s4 step : Int) : Int :=
  if step < b then b else if step < b + s1 then b + s1 else if step < b + s1 + s2 then b + s1 + s2 else if step < b + s1 + s2 + s3 then b + s1 + s2 + s3 else b + s4
theorem qtP {b s1 s2 s3 s4 step : Int} (h1 : 0 ≤ s1) (h2 : 0 ≤ s2) (h3 : 0 ≤ s3) (h4 : s1 + s2 + s3 ≤ s4) (hs : step < b + s4) :
    qeM step (qhx b s1 s2 s3 s4) = if qfQ b s1 s2 s3 s4 step ≤ 1000000000 then some (qfQ b s1 s2 s3 s4 step) else none := by
  unfold qeM qhx qfQ
  simp only [List.find?_cons, List.find?_nil]
  repeat' split
  all_goals simp only [decide_eq_true_eq, decide_eq_false_iff_not, not_and] at *
  all_goals first | rfl | (exfalso; omega) | (congr 1; omega)
theorem qkC {s0 s4 step : Int} (h0 : 0 ≤ s0) (h4 : 0 < s4) (hs : 0 ≤ step) : 0 ≤ qcq s0 s4 step ∧ step < qcq s0 s4 step + s4 ∧ (qcq s0 s4 step ≤ step ∨ qcq s0 s4 step = s0) ∧ (s0 ≤ qcq s0 s4 step) := by
  unfold qcq
  split
  · have a := Int.emod_add_mul_ediv (step - s0) s4
    have b := Int.emod_nonneg (step - s0) (show s4 ≠ 0 by omega)
    have c := Int.emod_lt_of_pos (step - s0) h4
    have d := Int.mul_comm s4 ((step - s0) / s4)
    have e := Int.mul_nonneg (Int.ediv_nonneg (show 0 ≤ step - s0 by omega) (show 0 ≤ s4 by omega)) (show 0 ≤ s4 by omega)
    omega
  · omega
def qeP (w0 : Int) (w1 : List (Int × Int)) (w2 : List Int) (step : Int) : Int × Bool :=
  if w0 = 2 then qnF (if qfQ (qcq (w2.getD 0 0) (w2.getD 4 0) step) (w2.getD 1 0) (w2.getD 2 0) (w2.getD 3 0) (w2.getD 4 0) step ≤ 1000000000 then some (qfQ (qcq (w2.getD 0 0) (w2.getD 4 0) step) (w2.getD 1 0) (w2.getD 2 0) (w2.getD 3 0) (w2.getD 4 0) step) else none)
  else if w0 = 3 then qnF (qeM step w2) else if w0 = 4 then qnF (if step + 1 ≤ 1000000000 then some (step + 1) else none) else (0, false)
section
variable {w0 : Int} {w1 : List (Int × Int)} {w2 : List Int} (hw : OkW w0 w1 w2) {step : Int} (h0 : 0 ≤ step) (h1 : step ≤ 1000000000)
include hw h0 h1
theorem qtQ (hk : w0 = 2) : Rn (fun k => qdv k w0 w1 w2 step) (qhx (qcq (w2.getD 0 0) (w2.getD 4 0) step) (w2.getD 1 0) (w2.getD 2 0) (w2.getD 3 0) (w2.getD 4 0)) := by
  obtain ⟨g1, g2, g3, g4⟩ : w1.length = 2 ∧ w2.length = 5 ∧ 1 ≤ w2.getD 4 0 ∧ w2.getD 1 0 + w2.getD 2 0 + w2.getD 3 0 ≤ w2.getD 4 0 := by
    rcases hw.kind with g | g | g | g
    · omega
    · exact g.2
    · omega
    · omega
  have q0 := hw.steps 0 (by omega) (by omega)
  have q1 := hw.steps 1 (by omega) (by omega)
  have q2 := hw.steps 2 (by omega) (by omega)
  have q3 := hw.steps 3 (by omega) (by omega)
  have q4 := hw.steps 4 (by omega) (by omega)
  have r0 := getD_some (l := w2) 0 (show 0 < w2.length by omega)
  have r1 := getD_some (l := w2) 0 (show 1 < w2.length by omega)
  have r2 := getD_some (l := w2) 0 (show 2 < w2.length by omega)
  have r3 := getD_some (l := w2) 0 (show 3 < w2.length by omega)
  have r4 := getD_some (l := w2) 0 (show 4 < w2.length by omega)
  generalize w2.getD 0 0 = s0 at *
  generalize w2.getD 1 0 = s1 at *
  generalize w2.getD 2 0 = s2 at *
  generalize w2.getD 3 0 = s3 at *
  generalize w2.getD 4 0 = s4 at *
  have hb := qkC (s0 := s0) (s4 := s4) (step := step) (by omega) (by omega) h0
  refine Rn.up (f := fun k => qdv k w0 w1 w2 step) (Rn.at r0 ?_)
  by_cases c : step > s0
  · have hbe : qcq s0 s4 step = s0 + (step - s0) / s4 * s4 := by unfold qcq; rw [if_pos c]
    have ed : Int.tdiv (step - s0) s4 = (step - s0) / s4 := Int.tdiv_eq_ediv_of_nonneg (by omega)
    have en := Int.ediv_nonneg (show 0 ≤ step - s0 by omega) (show 0 ≤ s4 by omega)
    have el := Int.ediv_le_self s4 (show 0 ≤ step - s0 by omega)
    have hm : 0 ≤ (step - s0) / s4 * s4 := Int.mul_nonneg en (by omega)
    have lp := qoD r1 r2 r3 r4 (b := qcq s0 s4 step) (by omega) q1 q2 q3 q4
    refine Rn.t (decide_eq_true c) (Rn.at r4 (Rn.f (by omega) (Rn.at r4 ?_)))
    rw [qj (x := step - s0) (by omega), ed, qj (x := (step - s0) / s4) (by omega), qj (x := (step - s0) / s4 * s4) (by omega), qj (by omega), ← hbe]
    exact Rn.bind lp.diag (Rn.t (by simp [qhx]) (Rn.const (by simp [qhx])))
  · have hbe : qcq s0 s4 step = s0 := by unfold qcq; rw [if_neg c]
    have lp := qoD r1 r2 r3 r4 (b := qcq s0 s4 step) (by omega) q1 q2 q3 q4
    refine Rn.f (by rw [decide_eq_true_eq]; exact c) ?_
    rw [hbe] at lp ⊢
    exact Rn.bind lp.diag (Rn.t (by simp [qhx]) (Rn.const (by simp [qhx])))
theorem qrE : Rn (fun k => qcZ k w0 w1 w2 step) (qeP w0 w1 w2 step) := by
  have hl : w1.length ≤ 1000000000000000000 ∧ w2.length ≤ 1000000000000000000 := by
    have := hw.kind; omega
  have hv := qdp w0 w1 w2 hl.1 hl.2
  rw [qfd.2 hw] at hv
  refine Rn.up (f := fun k => qcZ k w0 w1 w2 step) (Rn.bind hv (Rn.t (by decide) (Rn.t (by rw [decide_eq_false_iff_not]; omega) (Rn.f (by rw [decide_eq_true_eq]; omega) ?_))))
  unfold qeP
  by_cases k2 : w0 = 2
  · rw [if_pos k2]
    obtain ⟨g1, g2, g3, g4⟩ : w1.length = 2 ∧ w2.length = 5 ∧ 1 ≤ w2.getD 4 0 ∧ w2.getD 1 0 + w2.getD 2 0 + w2.getD 3 0 ≤ w2.getD 4 0 := by
      rcases hw.kind with g | g | g | g
      · omega
      · exact g.2
      · omega
      · omega
    have q0 := hw.steps 0 (by omega) (by omega)
    have q1 := hw.steps 1 (by omega) (by omega)
    have q2 := hw.steps 2 (by omega) (by omega)
    have q3 := hw.steps 3 (by omega) (by omega)
    have hb := qkC (s0 := w2.getD 0 0) (s4 := w2.getD 4 0) (step := step) (by omega) (by omega) h0
    refine Rn.t (by rw [beq_iff_eq]; exact k2) (Rn.bind (qtQ hw h0 h1 k2) ?_)
    rw [← qtP q1.1 q2.1 q3.1 g4 hb.2.1]
    generalize hc : qhx _ _ _ _ _ = l
    have ll : l.length = 8 := by rw [← hc]; rfl
    have lp := qnG step l (by omega) l.length 0 (by omega)
    rw [List.drop_zero] at lp
    refine Rn.bind lp.diag ?_
    cases qeM step l <;> exact Rn.pure _
  rw [if_neg k2]
  refine Rn.f (by rw [beq_iff_eq]; exact k2) ?_
  by_cases k3 : w0 = 3
  · rw [if_pos k3]
    have lp := qnG step w2 (by omega) w2.length 0 (by omega)
    rw [List.drop_zero] at lp
    refine Rn.t (by rw [beq_iff_eq]; exact k3) (Rn.bind lp.diag ?_)
    cases qeM step w2 <;> exact Rn.pure _
  rw [if_neg k3]
  refine Rn.f (by rw [beq_iff_eq]; exact k3) ?_
  by_cases k4 : w0 = 4
  · rw [if_pos k4]
    refine Rn.t (by rw [beq_iff_eq]; exact k4) ?_
    rw [qj (by omega)]
    have lp : Rl (fun k n => qaU k n step 1 1 0 [step + 1]) (if step + 1 ≤ 1000000000 then .inl (step + 1, true, [step + 1]) else .inr [step + 1]) := by
      refine ⟨2, fun k n hk hn => ?_⟩
      obtain ⟨n, rfl⟩ : ∃ m, n = m + 1 + 1 := ⟨n - 2, by omega⟩
      show qcK k (qaU k (n + 1)) _ _ _ _ _ = _
      unfold qcK
      rw [if_pos (by decide), if_pos (by decide)]
      show (if decide (step + 1 > step) = true then _ else _) = _
      rw [if_pos (decide_eq_true (by omega))]
      by_cases c : step + 1 ≤ 1000000000
      · rw [if_pos (decide_eq_true c), if_pos c]
      · rw [if_neg (by rw [decide_eq_true_eq]; exact c), if_neg c]
        show qcK k (qaU k n) _ _ _ _ _ = _
        unfold qcK
        exact if_neg (by decide)
    refine Rn.bind lp.diag ?_
    by_cases c : step + 1 ≤ 1000000000
    · rw [if_pos c, if_pos c]; exact Rn.pure _
    · rw [if_neg c, if_neg c]; exact Rn.pure _
  rw [if_neg k4]
  refine Rn.f (by rw [beq_iff_eq]; exact k4) ?_
  have lp : Rl (fun k n => qaU k n step 0 0 0 []) (.inr []) := by
    refine Rl.up (f := fun k n => qaU k n step 0 0 0 []) (Rl.of 0 fun k n _ => ?_)
    show qcK k (qaU k n) _ _ _ _ _ = _
    unfold qcK
    exact if_neg (by decide)
  exact Rn.bind lp.diag (Rn.pure _)
end
theorem qyv (w0 : Int) (w1 : List (Int × Int)) (w2 : List Int) (step : Int) (h1 : w1.length ≤ 1000000000000000000) (h2 : w2.length ≤ 1000000000000000000) :
    Rn (fun k => qcZ k w0 w1 w2 step) (if okW w0 w1 w2 = true ∧ 0 ≤ step ∧ step ≤ 1000000000 then qeP w0 w1 w2 step else (0, false)) := by
  by_cases hw : okW w0 w1 w2 = true
  · by_cases hs : 0 ≤ step ∧ step ≤ 1000000000
    · rw [if_pos ⟨hw, hs⟩]; exact qrE (qfd.1 hw) hs.1 hs.2
    · rw [if_neg (fun h => hs h.2)]
      refine Rn.up (f := fun k => qcZ k w0 w1 w2 step) (Rn.bind (qdp w0 w1 w2 h1 h2) (Rn.t (by simp [hw]) ?_))
      by_cases h : step < 0
      · exact Rn.f (by rw [decide_eq_false_iff_not]; omega) (Rn.pure _)
      · exact Rn.t (by rw [decide_eq_false_iff_not]; omega) (Rn.t (by rw [decide_eq_true_eq]; omega) (Rn.pure _))
  · rw [if_neg (fun h => hw h.1)]
    exact Rn.up (f := fun k => qcZ k w0 w1 w2 step) (Rn.bind (qdp w0 w1 w2 h1 h2) (Rn.f (by simp [hw]) (Rn.pure _)))
end Go.Proofs.YtbhnafdmilfobaaGreat.Am

/- qt reckoning: where corners lie, and lines between them. -/
set_option linter.unusedVariables false
set_option linter.unusedSectionVars false
set_option linter.unusedSimpArgs false
set_option maxRecDepth 10000
namespace Go.Proofs.YtbhnafdmilfobaaGreat.Am
open Go
theorem qGY {w0 : Int} {w1 : List (Int × Int)} {w2 : List Int} (ok : OkW w0 w1 w2) (h : w0 = 2) : w1.length = 2 ∧ w2.length = 5 ∧ 1 ≤ w2.getD 4 0 ∧ w2.getD 1 0 + w2.getD 2 0 + w2.getD 3 0 ≤ w2.getD 4 0 := by
  rcases ok.kind with g | g | g | g
  · omega
  · exact g.2
  · omega
  · omega
theorem qGZ {w0 : Int} {w1 : List (Int × Int)} {w2 : List Int} (ok : OkW w0 w1 w2) (h : w0 = 3) : w1.length = w2.length ∧ 1 ≤ w1.length ∧ w1.length ≤ 16 ∧ (∀ j, 1 ≤ j → j < w2.length → w2.getD (j - 1) 0 < w2.getD j 0) := by
  rcases ok.kind with g | g | g | g
  · omega
  · omega
  · exact g.2
  · omega
theorem qwF {w0 : Int} {w1 : List (Int × Int)} {w2 : List Int} (ok : OkW w0 w1 w2) : ∀ x ∈ w2, x ≤ 1000000000 := by
  intro x hx
  obtain ⟨i, hi, rfl⟩ := List.mem_iff_getElem.1 hx
  have := (ok.steps i (by omega) hi).2
  simpa [List.getD, hi] using this
theorem qB1 {s0 s4 step : Int} (h4 : 0 < s4) : ∃ q, 0 ≤ q ∧ qcq s0 s4 step = s0 + q * s4 := by
  unfold qcq
  split
  · exact ⟨(step - s0) / s4, Int.ediv_nonneg (by omega) (by omega), rfl⟩
  · exact ⟨0, by omega, by omega⟩
end Go.Proofs.YtbhnafdmilfobaaGreat.Am

/- qt reckoning: the reference's next corner. -/
set_option linter.unusedVariables false
set_option linter.unusedSectionVars false
set_option linter.unusedSimpArgs false
set_option maxRecDepth 10000
namespace Go.Proofs.YtbhnafdmilfobaaGreat.Am
open Go
theorem qoE (step : Int) : ∀ {l : List Int}, (∀ x ∈ l, x ≤ 1000000000) → qeM step l = if upI step l < l.length then some (l.getD (upI step l) 0) else none
  | [], _ => rfl
  | x :: l, hl => by
    have hx := hl x (by simp)
    have ih := qoE step (l := l) (fun y hy => hl y (by simp [hy]))
    unfold qeM at ih ⊢
    unfold upI
    by_cases c : step < x
    · rw [List.find?_cons_of_pos (by exact decide_eq_true ⟨c, hx⟩), if_neg (show ¬ x ≤ step by omega)]
      simp
    · rw [List.find?_cons_of_neg (by simp only [decide_eq_true_eq]; omega), ih, if_pos (show x ≤ step by omega)]
      simp
theorem quQ {w2 : List Int} (h : ∀ j, 1 ≤ j → j < w2.length → w2.getD (j - 1) 0 < w2.getD j 0) (i : Nat) : ∀ d, i + 1 + d < w2.length → w2.getD i 0 < w2.getD (i + 1 + d) 0 := by
  intro d
  induction d with
  | zero => intro hj; have := h (i + 1) (by omega) hj; simpa using this
  | succ d ih =>
    intro hj
    have a := ih (by omega)
    have b := h (i + 1 + (d + 1)) (by omega) hj
    rw [show i + 1 + (d + 1) - 1 = i + 1 + d by omega] at b
    omega
theorem qtR (step : Int) (w1 : List (Int × Int)) (w2 : List Int) (hl : w2.length ≤ 16) (hr : ∀ j, 0 ≤ j → j < w2.length → 0 ≤ w2.getD j 0 ∧ w2.getD j 0 ≤ 1000000000) (hs : ∀ j, 1 ≤ j → j < w2.length → w2.getD (j - 1) 0 < w2.getD j 0) :
    ∀ (d i : Nat) (best : Int), i + d = w2.length → best = (if i ≤ upI step w2 then 1000000001 else w2.getD (upI step w2) 0) →
    Rl (fun k n => qv k n step best i 3 w1 w2) (step, (if upI step w2 < w2.length then w2.getD (upI step w2) 0 else 1000000001), 3, w1, w2) := by
  have hle := qnD step w2
  have hb := qgt step w2
  have ha := qnE step w2
  generalize upI step w2 = I at *
  intro d
  induction d with
  | zero =>
    intro i best hi he
    refine Rl.up (f := fun k n => qv k n step best i 3 w1 w2) (Rl.of 0 fun k n _ => ?_)
    show qaH k (qv k n) _ _ _ _ _ _ = _
    unfold qaH
    rw [if_neg (by simp; omega)]
    have : best = (if I < w2.length then w2.getD I 0 else 1000000001) := by
      rw [he]
      by_cases c : I < w2.length
      · rw [if_neg (by omega), if_pos c]
      · rw [if_pos (by omega), if_neg c]
    rw [this]
  | succ d ih =>
    intro i best hi he
    have qi := hr i (by omega) (by omega)
    have go : ∀ best', Rl (fun k n => qv k n step best' ((i + 1 : Nat) : Int) 3 w1 w2) (step, (if I < w2.length then w2.getD I 0 else 1000000001), 3, w1, w2) →
        (best' = if step < w2.getD i 0 then (if w2.getD i 0 < best then w2.getD i 0 else best) else best) → Rl (fun k n => qv k n step best i 3 w1 w2) (step, (if I < w2.length then w2.getD I 0 else 1000000001), 3, w1, w2) := by
      intro best' h hbe
      refine Rl.up (f := fun k n => qv k n step best i 3 w1 w2) ?_
      show Rl (fun k n => qaH k (qv k n) _ _ _ _ _ _) _
      unfold qaH
      have wr : IntKind.i64.wrap ((i : Int) + 1) = ((i + 1 : Nat) : Int) := by rw [qj (by omega)]; rfl
      rw [wr]
      have gi : w2[Int.toNat (i : Int)]? = some (w2.getD i 0) := getD_some 0 (by rw [Int.toNat_natCast]; omega)
      refine Rl.t (decide_eq_true (by omega)) (Rl.t (by decide) (Rl.t (by omega) (Rl.at gi ?_)))
      by_cases c1 : step < w2.getD i 0
      · rw [if_pos c1] at hbe
        refine Rl.t (decide_eq_true c1) (Rl.t (by omega) (Rl.at gi ?_))
        by_cases c2 : w2.getD i 0 < best
        · rw [if_pos c2] at hbe
          subst hbe
          exact Rl.t (decide_eq_true c2) (Rl.t (by omega) (Rl.at gi h))
        · rw [if_neg c2] at hbe
          subst hbe
          exact Rl.f (by rw [decide_eq_true_eq]; exact c2) h
      · rw [if_neg c1] at hbe
        subst hbe
        exact Rl.f (by rw [decide_eq_true_eq]; exact c1) h
    by_cases c1 : i < I
    · have := hb i c1
      have hi' := ih (i + 1) 1000000001 (by omega) (by rw [if_pos (by omega)])
      exact go _ hi' (by rw [if_neg (by omega), he, if_pos (by omega)])
    · by_cases c2 : i = I
      · subst c2
        have := ha (by omega)
        have hi' := ih (i + 1) (w2.getD i 0) (by omega) (by rw [if_neg (by omega)])
        exact go _ hi' (by rw [if_pos this, he, if_pos (by omega)])
      · have hlt := quQ hs I (i - I - 1) (by omega)
        rw [show I + 1 + (i - I - 1) = i by omega] at hlt
        have := ha (by omega)
        have hi' := ih (i + 1) (w2.getD I 0) (by omega) (by rw [if_neg (by omega)])
        exact go _ hi' (by rw [if_pos (by omega), he, if_neg (by omega), if_neg (by omega)])
def cOf (s0 s4 step o : Int) : Int := if s0 + o ≤ step then s0 + o + ((step - (s0 + o)) / s4 + 1) * s4 else s0 + o
theorem qnH {s0 s4 step o : Int} (h0 : 0 ≤ s0) (h4 : 0 < s4) (hs : 0 ≤ step) (ho : 0 ≤ o ∧ o ≤ s4) : cOf s0 s4 step o = if step < qcq s0 s4 step + o then qcq s0 s4 step + o else qcq s0 s4 step + s4 + o := by
  obtain ⟨q, hq, e⟩ := qB1 (s0 := s0) (s4 := s4) (step := step) h4
  obtain ⟨b1, b2, b3, b4⟩ := qkC (s0 := s0) (s4 := s4) (step := step) h0 h4 hs
  generalize qcq s0 s4 step = b at *
  have hq1 : q = 0 ∨ s4 ≤ q * s4 := by
    rcases Int.lt_or_le 0 q with h | h
    · have := Int.mul_le_mul_of_nonneg_right (show 1 ≤ q by omega) (show 0 ≤ s4 by omega); omega
    · exact .inl (by omega)
  have hq0 := Int.mul_nonneg hq (show 0 ≤ s4 by omega)
  unfold cOf
  by_cases c : s0 + o ≤ step
  · rw [if_pos c]
    by_cases c2 : step < b + o
    · rw [if_pos c2]
      have e2 : step - (s0 + o) = (step - b - o + s4) + (q - 1) * s4 := by rw [Int.sub_mul]; omega
      rw [e2, Int.add_mul_ediv_right _ _ (by omega), Int.ediv_eq_zero_of_lt (by omega) (by omega), show (0 + (q - 1) + 1 : Int) = q by omega]
      omega
    · rw [if_neg c2]
      have e2 : step - (s0 + o) = (step - b - o) + q * s4 := by omega
      rw [e2, Int.add_mul_ediv_right _ _ (by omega), Int.ediv_eq_zero_of_lt (by omega) (by omega), Int.zero_add, Int.add_mul]
      omega
  · rw [if_neg c]
    have hq00 : q * s4 = 0 := by
      rcases hq1 with h | h
      · rw [h]; omega
      · omega
    rw [if_pos (by omega)]
    omega
end Go.Proofs.YtbhnafdmilfobaaGreat.Am

/- qt reckoning: the reference's next corner, the whole; the same waves. -/
set_option linter.unusedVariables false
set_option linter.unusedSectionVars false
set_option linter.unusedSimpArgs false
set_option maxRecDepth 10000
namespace Go.Proofs.YtbhnafdmilfobaaGreat.Am
open Go
theorem qtS {w2 : List Int} {s0 s4 step : Int} (w1 : List (Int × Int)) (r0 : w2[0]? = some s0) (r4 : w2[4]? = some s4) (h0 : 0 ≤ s0 ∧ s0 ≤ 1000000000) (h4 : 1 ≤ s4 ∧ s4 ≤ 1000000000) (hs : 0 ≤ step ∧ step ≤ 1000000000) (a b c d : Int)
    (ha : 0 ≤ a ∧ a ≤ s4) (hb : 0 ≤ b ∧ b ≤ s4) (hc : 0 ≤ c ∧ c ≤ s4) (hd : 0 ≤ d ∧ d ≤ s4) (best : Int) :
    Rl (fun k n => qah k n step best 4 0 2 w1 w2 [a, b, c, d]) (min (min (min (min best (cOf s0 s4 step a)) (cOf s0 s4 step b)) (cOf s0 s4 step c)) (cOf s0 s4 step d), 2, w1, w2, [a, b, c, d]) := by
  have one : ∀ (k n i : Nat) (o best : Int), i < 4 → [a, b, c, d][i]? = some o → (0 ≤ o ∧ o ≤ s4) → qah k (n + 1) step best 4 i 2 w1 w2 [a, b, c, d] = qah k n step (min best (cOf s0 s4 step o)) 4 ((i + 1 : Nat) : Int) 2 w1 w2 [a, b, c, d] := by
    intro k n i o best hi ho hr
    show qcu k (qah k n) _ _ _ _ _ _ _ _ = _
    unfold qcu
    have wr : IntKind.i64.wrap ((i : Int) + 1) = ((i + 1 : Nat) : Int) := by rw [qj (by omega)]; rfl
    rw [if_pos (decide_eq_true (by omega)), r0, Option.bind_some, if_pos (by omega), Int.toNat_natCast, Nat.zero_add, ho, Option.bind_some, wr, qj (x := s0 + o) (by omega)]
    unfold cOf
    by_cases c : s0 + o ≤ step
    · have ed : Int.tdiv (step - (s0 + o)) s4 = (step - (s0 + o)) / s4 := Int.tdiv_eq_ediv_of_nonneg (by omega)
      have en := Int.ediv_nonneg (show 0 ≤ step - (s0 + o) by omega) (show 0 ≤ s4 by omega)
      have el := Int.ediv_le_self s4 (show 0 ≤ step - (s0 + o) by omega)
      have em := Int.ediv_mul_le (step - (s0 + o)) (show s4 ≠ 0 by omega)
      have hm : 0 ≤ (step - (s0 + o)) / s4 * s4 := Int.mul_nonneg en (by omega)
      rw [if_pos (decide_eq_true c), r4, Option.bind_some, if_neg (by omega), Option.bind_some, if_pos c, qj (x := step - (s0 + o)) (by omega), ed, qj (x := (step - (s0 + o)) / s4) (by omega), qj (x := (step - (s0 + o)) / s4 + 1) (by omega), qj (x := ((step - (s0 + o)) / s4 + 1) * s4) (by rw [Int.add_mul]; omega), qj (by rw [Int.add_mul]; omega)]
    · rw [if_neg (by rw [decide_eq_true_eq]; exact c), if_neg c]
  refine ⟨5, fun k n hk hn => ?_⟩
  obtain ⟨n, rfl⟩ : ∃ m, n = m + 1 + 1 + 1 + 1 + 1 := ⟨n - 5, by omega⟩
  refine (one k (n + 1 + 1 + 1 + 1) 0 a best (by omega) rfl ha).trans ((one k (n + 1 + 1 + 1) 1 b _ (by omega) rfl hb).trans ((one k (n + 1 + 1) 2 c _ (by omega) rfl hc).trans ((one k (n + 1) 3 d _ (by omega) rfl hd).trans ?_)))
  show qcu k (qah k n) _ _ _ _ _ _ _ _ = _
  unfold qcu
  exact if_neg (by decide)
section
variable {w0 : Int} {w1 : List (Int × Int)} {w2 : List Int} (hw : OkW w0 w1 w2) {step : Int} (h0 : 0 ≤ step) (h1 : step ≤ 1000000000)
include hw h0 h1
theorem qoM : Rn (fun k => qa9 k w0 w1 w2 step) (qeP w0 w1 w2 step) := by
  have hl : w1.length ≤ 1000000000000000000 ∧ w2.length ≤ 1000000000000000000 := by
    have := hw.kind; omega
  have hv := qfr w0 w1 w2 hl.1 hl.2
  rw [qfd.2 hw] at hv
  refine Rn.up (f := fun k => qa9 k w0 w1 w2 step) (Rn.bind hv (Rn.t (by decide) (Rn.t (by rw [decide_eq_false_iff_not]; omega) (Rn.t (by rw [decide_eq_false_iff_not]; omega) ?_))))
  by_cases k1 : w0 = 1
  · have e : qeP w0 w1 w2 step = (0, false) := by unfold qeP; rw [if_neg (by omega), if_neg (by omega), if_neg (by omega)]
    rw [e]
    exact Rn.t (by rw [beq_iff_eq]; exact k1) (Rn.pure _)
  refine Rn.f (by rw [beq_iff_eq]; exact k1) ?_
  by_cases k4 : w0 = 4
  · have hz : w2.length = 0 := by have := hw.kind; omega
    have e : qeP w0 w1 w2 step = qnF (if step + 1 ≤ 1000000000 then some (step + 1) else none) := by unfold qeP; rw [if_neg (by omega), if_neg (by omega), if_pos k4]
    rw [e]
    have lp : Rl (fun k n => qv k n step (step + 1) 0 w0 w1 w2) (step, step + 1, w0, w1, w2) := by
      refine Rl.up (f := fun k n => qv k n step (step + 1) 0 w0 w1 w2) (Rl.of 0 fun k n _ => ?_)
      show qaH k (qv k n) _ _ _ _ _ _ = _
      unfold qaH
      exact if_neg (by rw [hz]; decide)
    refine Rn.t (by rw [beq_iff_eq]; exact k4) ?_
    rw [qj (by omega)]
    refine Rn.bind lp.diag (Rn.f (by rw [beq_iff_eq]; show ¬ w0 = 2; omega) ?_)
    by_cases c : step + 1 ≤ 1000000000
    · rw [if_pos c]; exact Rn.f (by rw [decide_eq_true_eq]; show ¬ step + 1 > 1000000000; omega) (Rn.pure _)
    · rw [if_neg c]; exact Rn.t (decide_eq_true (by show step + 1 > 1000000000; omega)) (Rn.pure _)
  refine Rn.f (by rw [beq_iff_eq]; exact k4) ?_
  by_cases k3 : w0 = 3
  · subst k3
    obtain ⟨g1, g2, g3, g4⟩ := qGZ hw rfl
    have lp := qtR step w1 w2 (by omega) hw.steps g4 w2.length 0 1000000001 (by omega) (by rw [if_pos (by omega)])
    have e : qeP 3 w1 w2 step = qnF (qeM step w2) := by unfold qeP; rw [if_neg (by omega), if_pos rfl]
    rw [e, qoE step (qwF hw)]
    refine Rn.bind lp.diag (Rn.f (show ¬ ((3 : Int) == 2) = true by decide) ?_)
    by_cases c : upI step w2 < w2.length
    · have := hw.steps (upI step w2) (by omega) c
      rw [if_pos c, if_pos c]
      exact Rn.f (by rw [decide_eq_true_eq]; show ¬ w2.getD (upI step w2) 0 > 1000000000; omega) (Rn.pure _)
    · rw [if_neg c, if_neg c]
      exact Rn.t (show decide ((1000000001 : Int) > 1000000000) = true by decide) (Rn.pure _)
  have k2 : w0 = 2 := by have := hw.kind; omega
  subst k2
  obtain ⟨g1, g2, g3, g4⟩ := qGY hw rfl
  have q0 := hw.steps 0 (by omega) (by omega)
  have q1 := hw.steps 1 (by omega) (by omega)
  have q2 := hw.steps 2 (by omega) (by omega)
  have q3 := hw.steps 3 (by omega) (by omega)
  have q4 := hw.steps 4 (by omega) (by omega)
  have r0 := getD_some (l := w2) 0 (show 0 < w2.length by omega)
  have r1 := getD_some (l := w2) 0 (show 1 < w2.length by omega)
  have r2 := getD_some (l := w2) 0 (show 2 < w2.length by omega)
  have r3 := getD_some (l := w2) 0 (show 3 < w2.length by omega)
  have r4 := getD_some (l := w2) 0 (show 4 < w2.length by omega)
  unfold qeP
  rw [if_pos rfl]
  generalize w2.getD 0 0 = s0 at *
  generalize w2.getD 1 0 = s1 at *
  generalize w2.getD 2 0 = s2 at *
  generalize w2.getD 3 0 = s3 at *
  generalize w2.getD 4 0 = s4 at *
  have lp0 : Rl (fun k n => qv k n step 1000000001 0 2 w1 w2) (step, 1000000001, 2, w1, w2) := by
    refine Rl.up (f := fun k n => qv k n step 1000000001 0 2 w1 w2) (Rl.of 0 fun k n _ => ?_)
    show qaH k (qv k n) _ _ _ _ _ _ = _
    unfold qaH
    rw [if_pos (decide_eq_true (by omega)), if_neg (by decide)]
  have wr1 : IntKind.i64.wrap (s1 + s2) = s1 + s2 := qj (by omega)
  have wr2 : IntKind.i64.wrap (s1 + s2 + s3) = s1 + s2 + s3 := qj (by omega)
  have lp2 := qtS (step := step) w1 r0 r4 q0 (by omega) ⟨h0, h1⟩ 0 s1 (s1 + s2) (s1 + s2 + s3) (by omega) (by omega) (by omega) (by omega) 1000000001
  refine Rn.bind lp0.diag (Rn.t (show ((2 : Int) == 2) = true by decide) (Rn.at r1 (Rn.at r1 (Rn.at r2 (Rn.at r1 (Rn.at r2 (Rn.at r3 ?_)))))))
  rw [wr1, wr2]
  refine Rn.bind lp2.diag ?_
  obtain ⟨b1, b2, b3, b4⟩ := qkC (s0 := s0) (s4 := s4) (step := step) (by omega) (by omega) h0
  rw [qnH q0.1 (by omega) h0 (by omega), qnH q0.1 (by omega) h0 (by omega), qnH q0.1 (by omega) h0 (by omega), qnH q0.1 (by omega) h0 (by omega)]
  generalize qcq s0 s4 step = b at *
  have key : min (min (min (min 1000000001 (if step < b + 0 then b + 0 else b + s4 + 0)) (if step < b + s1 then b + s1 else b + s4 + s1)) (if step < b + (s1 + s2) then b + (s1 + s2) else b + s4 + (s1 + s2))) (if step < b + (s1 + s2 + s3) then b + (s1 + s2 + s3) else b + s4 + (s1 + s2 + s3)) = min 1000000001 (qfQ b s1 s2 s3 s4 step) := by
    unfold qfQ
    repeat' split
    all_goals omega
  rw [key]
  generalize qfQ b s1 s2 s3 s4 step = n
  by_cases c : n ≤ 1000000000
  · rw [if_pos c, show min 1000000001 n = n by omega]
    exact Rn.f (by rw [decide_eq_true_eq]; show ¬ n > 1000000000; omega) (Rn.pure _)
  · rw [if_neg c, show min 1000000001 n = 1000000001 by omega]
    exact Rn.t (show decide ((1000000001 : Int) > 1000000000) = true by decide) (Rn.pure _)
end
end Go.Proofs.YtbhnafdmilfobaaGreat.Am

/- The law WaveCalls in plain words. -/
set_option linter.unusedVariables false
set_option linter.unusedSectionVars false
set_option linter.unusedSimpArgs false
set_option maxRecDepth 10000
namespace Go.Proofs.YtbhnafdmilfobaaGreat.Am
open Go
theorem qwG (w0 : Int) (w1 : List (Int × Int)) (w2 : List Int) (step : Int) (h1 : w1.length ≤ 1000000000000000000) (h2 : w2.length ≤ 1000000000000000000) :
    Rn (fun k => qa9 k w0 w1 w2 step) (if okW w0 w1 w2 = true ∧ 0 ≤ step ∧ step ≤ 1000000000 then qeP w0 w1 w2 step else (0, false)) := by
  by_cases hw : okW w0 w1 w2 = true
  · by_cases hs : 0 ≤ step ∧ step ≤ 1000000000
    · rw [if_pos ⟨hw, hs⟩]; exact qoM (qfd.1 hw) hs.1 hs.2
    · rw [if_neg (fun h => hs h.2)]
      refine Rn.up (f := fun k => qa9 k w0 w1 w2 step) (Rn.bind (qfr w0 w1 w2 h1 h2) (Rn.t (by simp [hw]) ?_))
      by_cases h : step < 0
      · exact Rn.f (by rw [decide_eq_false_iff_not]; omega) (Rn.pure _)
      · exact Rn.t (by rw [decide_eq_false_iff_not]; omega) (Rn.f (by rw [decide_eq_false_iff_not]; omega) (Rn.pure _))
  · rw [if_neg (fun h => hw h.1)]
    exact Rn.up (f := fun k => qa9 k w0 w1 w2 step) (Rn.bind (qfr w0 w1 w2 h1 h2) (Rn.f (by simp [hw]) (Rn.pure _)))
theorem qwH (l : List (Int × Int)) (hl : l.length ≤ 1000000000000000000) : Rn (fun k => qcM k l l) true := by
  have lp : ∀ d i : Nat, i + d = l.length → Rl (fun k n => qav k n l l i) (.inr ()) := by
    intro d
    induction d with
    | zero =>
      intro i hi
      refine Rl.up (f := fun k n => qav k n l l i) (Rl.of 0 fun k n _ => ?_)
      show qct k (qav k n) _ _ _ = _
      unfold qct
      exact if_neg (by simp; omega)
    | succ d ih =>
      intro i hi
      refine Rl.up (f := fun k n => qav k n l l i) ?_
      show Rl (fun k n => qct k (qav k n) _ _ _) _
      unfold qct
      have gi : l[Int.toNat (i : Int)]? = some (l.getD i (0, 0)) := getD_some (0, 0) (by rw [Int.toNat_natCast]; omega)
      refine Rl.t (decide_eq_true (by omega)) (Rl.t (by omega) (Rl.at gi (Rl.t (by omega) (Rl.at gi (Rl.t (by simp) (Rl.t (by simp) ?_))))))
      rw [qj (by omega)]
      exact ih (i + 1) (by omega)
  exact Rn.up (f := fun k => qcM k l l) (Rn.f (by simp) (Rn.bind (lp l.length 0 (by omega)).diag (Rn.pure _)))
theorem qwI (w0 : Int) (w1 : List (Int × Int)) (w2 : List Int) (h1 : w1.length ≤ 1000000000000000000) (h2 : w2.length ≤ 1000000000000000000) : Rn (fun k => qcQ k w0 w1 w2 w0 w1 w2) true := by
  have lp : ∀ d i : Nat, i + d = w2.length → Rl (fun k n => qaw k n i w0 w1 w2 w0 w1 w2) (.inr (w0, w1, w2, w0, w1, w2)) := by
    intro d
    induction d with
    | zero =>
      intro i hi
      refine Rl.up (f := fun k n => qaw k n i w0 w1 w2 w0 w1 w2) (Rl.of 0 fun k n _ => ?_)
      show qcv k (qaw k n) _ _ _ _ _ _ _ = _
      unfold qcv
      exact if_neg (by simp; omega)
    | succ d ih =>
      intro i hi
      refine Rl.up (f := fun k n => qaw k n i w0 w1 w2 w0 w1 w2) ?_
      show Rl (fun k n => qcv k (qaw k n) _ _ _ _ _ _ _) _
      unfold qcv
      have gi : w2[Int.toNat (i : Int)]? = some (w2.getD i 0) := getD_some 0 (by rw [Int.toNat_natCast]; omega)
      refine Rl.t (decide_eq_true (by omega)) (Rl.t (by omega) (Rl.at gi (Rl.t (by omega) (Rl.at gi (Rl.f (by simp) ?_)))))
      rw [qj (by omega)]
      exact ih (i + 1) (by omega)
  exact Rn.up (f := fun k => qcQ k w0 w1 w2 w0 w1 w2) (Rn.t (by simp) (Rn.f (by simp) (Rn.bind (lp w2.length 0 (by omega)).diag (Rn.bind (qwH w1 h1) (Rn.pure _)))))
theorem quR (w0 : Int) (w1 : List (Int × Int)) (w2 : List Int) (h1 : w1.length ≤ 1000000000000000000) (h2 : w2.length ≤ 1000000000000000000) :
    Rn (fun k => qbk k w0 w1.length w2.length w0 w1 w2 (w1 ++ [(77, 0)]) (w2 ++ [-77])) (true, w1 ++ [(77, 0)], w2 ++ [-77]) := by
  refine Rn.up (f := fun k => qbk k w0 w1.length w2.length w0 w1 w2 (w1 ++ [(77, 0)]) (w2 ++ [-77])) ?_
  show Rn (fun k => qdL k w0 w1.length w2.length w0 w1 w2 (w1 ++ [(77, 0)]) (w2 ++ [-77])) _
  unfold qdL
  have e1 : List.take w1.length (w1 ++ [((77 : Int), (0 : Int))]) = w1 := by simp
  have e2 : List.take w2.length (w2 ++ [-77]) = w2 := by simp
  have wr1 : IntKind.i64.wrap ((w1.length : Int) + 1) = (w1.length : Int) + 1 := qj (by omega)
  have wr2 : IntKind.i64.wrap ((w2.length : Int) + 1) = (w2.length : Int) + 1 := qj (by omega)
  rw [e1, e2, wr1, wr2]
  have g1 : (w1 ++ [((77 : Int), (0 : Int))])[0 + Int.toNat (w1.length : Int)]? = some (77, 0) := by simp
  have g2 : (w2 ++ [(-77 : Int)])[0 + Int.toNat (w2.length : Int)]? = some (-77) := by simp
  refine Rn.t (by simp) (Rn.t (by simp) (Rn.bind (qwI w0 w1 w2 h1 h2) (Rn.t rfl (Rn.t ?_ (Rn.t (by omega) (Rn.at g1 (Rn.t (by decide) (Rn.t ?_ (Rn.t (by omega) (Rn.at g2 (Rn.const (by simp))))))))))))
  · refine ⟨by omega, by omega, ?_, .inr rfl⟩
    simp only [List.length_append, List.length_cons, List.length_nil]
    omega
  · refine ⟨by omega, by omega, ?_, .inr rfl⟩
    simp only [List.length_append, List.length_cons, List.length_nil]
    omega
theorem qol (w : Int × List (Int × Int) × List Int) (st : List Int) (ww : Wfd cdW w) (ws : Wfd (.sl (.int .i64)) st) : ∃ k, qbl k w.1 w.2.1 w.2.2 st = some true := by
  obtain ⟨b1, b2⟩ := qB0 ww
  have hst : st.length ≤ 1000000000000000000 := by
    obtain ⟨⟨_, r⟩, _⟩ := ws
    have r : st.length * 8 ≤ reachBytes := r
    unfold reachBytes at r
    omega
  obtain ⟨w0, w1, w2⟩ := w
  dsimp only at b1 b2 ⊢
  have l1 : w1.length ≤ 1000000000000000000 := by omega
  have l2 : w2.length ≤ 1000000000000000000 := by omega
  suffices h : Rn (fun k => qbl k w0 w1 w2 st) true from h.get
  have e1 : List.take w1.length (w1 ++ [((77 : Int), (0 : Int))]) = w1 := by simp
  have e2 : List.take w2.length (w2 ++ [(-77 : Int)]) = w2 := by simp
  have c1 : 0 + w1.length ≤ (w1 ++ [((77 : Int), (0 : Int))]).length := by simp
  have c2 : 0 + w2.length ≤ (w2 ++ [(-77 : Int)]).length := by simp
  have lp : ∀ d i : Nat, i + d = st.length → Rl (fun k n => qU k n st st.length i w0 w1 w2 w0 w1.length w2.length (w1 ++ [(77, 0)]) (w2 ++ [-77])) (.inr (w0, w1, w2, w0, w1.length, w2.length, w1 ++ [(77, 0)], w2 ++ [-77])) := by
    intro d
    induction d with
    | zero =>
      intro i hi
      refine Rl.up (f := fun k n => qU k n st st.length i w0 w1 w2 w0 w1.length w2.length (w1 ++ [(77, 0)]) (w2 ++ [-77])) (Rl.of 0 fun k n _ => ?_)
      show qbC k (qU k n) _ _ _ _ _ _ _ _ _ _ _ = _
      unfold qbC
      exact if_neg (by simp; omega)
    | succ d ih =>
      intro i hi
      refine Rl.up (f := fun k n => qU k n st st.length i w0 w1 w2 w0 w1.length w2.length (w1 ++ [(77, 0)]) (w2 ++ [-77])) ?_
      show Rl (fun k n => qbC k (qU k n) _ _ _ _ _ _ _ _ _ _ _) _
      unfold qbC
      have gi : st[Int.toNat (i : Int)]? = some (st.getD i 0) := getD_some 0 (by rw [Int.toNat_natCast]; omega)
      rw [e1, e2]
      refine Rl.t (decide_eq_true (by omega)) (Rl.t (by omega) (Rl.at gi (Rl.t c1 (Rl.t c2 (Rl.bind (qGW w0 w1 w2 _ l1 l2) (Rl.bind (qBZ w0 w1 w2 _ l1 l2) (Rl.t c1 (Rl.t c2 (Rl.bind (qyv w0 w1 w2 _ l1 l2) (Rl.bind (qwG w0 w1 w2 _ l1 l2) (Rl.t (by simp) (Rl.t (by simp) (Rl.t (by simp) (Rl.f (by simp) ?_))))))))))))))
      rw [qj (by omega)]
      exact ih (i + 1) (by omega)
  refine Rn.up (f := fun k => qbl k w0 w1 w2 st) (Rn.bind quP (Rn.f (by decide) (Rn.bind (qwE w0 w1 w2 b1 b2) (Rn.t c1 (Rn.t c2 ?_)))))
  dsimp only
  rw [e1, e2]
  exact Rn.bind (qdp w0 w1 w2 l1 l2) (Rn.bind (qfr w0 w1 w2 l1 l2) (Rn.f (by simp) (Rn.bind (lp st.length 0 (by omega)).diag (Rn.bind (quR w0 w1 w2 l1 l2) (Rn.pure _)))))
end Go.Proofs.YtbhnafdmilfobaaGreat.Am

/- The law WaveCalls returns true for every input, and its arguments read as they did. -/
namespace Go.Proofs.YtbhnafdmilfobaaGreat.waveCalls
open Go.ChangeShapes Go.WideShapes Go.ChangeAt Go.RowKit
open Go.Proofs.YtbhnafdmilfobaaGreat.Am
set_option linter.unusedVariables false
theorem own : ownKnob Tryz.prog.godebug = none := by kernel_rfl
theorem laidOut : laidOutB Tryz.prog = true := by kernel_rfl
set_option maxRecDepth 100000 in
theorem lifted (os : Os) (started : os.Started) (H : Type) (enc : TypeId × Value → H) :
    ReturnsInHanded {} Tryz.checked os 4 .any (Rows.waveCallsSpec.pre6 enc Tryz.prog Tryz.f4 Rows.waveCallsRow.domain false) (Rows.waveCallsSpec.post enc Tryz.prog Tryz.f4 false true false false) := by
  refine returnsInHanded_of_change_sized (C := Tryz.checked) own started (by kernel_rfl) Tryz.func4
    (ChangeSpec.witness6 (enc := enc) (C := Tryz.checked) false ⟨#[], #[.agg #[.int .i64 0, .slice none 0 0, .slice none 0 0], .slice none 0 0], []⟩ 8 (by kernel_rfl) (by kernel_rfl) (by kernel_rfl) (by kernel_rfl)) ?_
  intro W base args ds gs before hval0 hW hcnd hsz0 _
  have hval : ∀ (j : Nat) t v, Tryz.f4.params[j]? = some t → args[j]? = some v → Value.okWide Tryz.prog W .any base t v := hval0
  have hW' := hW
  obtain ⟨p, q, hA0, hV, rfl, hfz, hnd⟩ := hW
  have hA : DataW.TrodAll enc Tryz.prog W 0 (fun _ => true) true Tryz.f4.params.toList args.toList ds p := hA0
  rw [Tryz.params4] at hA hval
  obtain ⟨v0, vs0, d0, ds0, p0, q0, hargs, rfl, rfl, h0, r0⟩ := trodAll_cons hA
  obtain ⟨v1, vs1, d1, ds1, p1, q1, rfl, rfl, rfl, h1, r1⟩ := trodAll_cons r0
  obtain ⟨rfl, rfl, rfl⟩ := trodAll_nil r1
  obtain rfl : args = #[v0, v1] := by cases args; simp_all
  obtain ⟨rfl, rfl⟩ := trodVars_none hV
  rw [Tryz.params4] at hsz0
  obtain ⟨hz0, hs0⟩ := qlH hsz0
  obtain ⟨hz1, hs1⟩ := qlH hs0
  have lt0 : ∀ x ∈ p0, x.block < W.heap.size := by obtain ⟨m, hm⟩ := h0; exact DataW.trod_lt m _ _ _ hm
  obtain ⟨y0, rv0, nm0, wf0⟩ := qsm (d := 9) (c := (.pr (.int .i64) (.pr (.sl (.pr (.int .i64) (.int .i64))) (.sl (.int .i64))))) true (by kernel_rfl) (by kernel_rfl) (by kernel_rfl) (hval 0 52 v0 rfl rfl) h0 hz0
  have lt1 : ∀ x ∈ p1, x.block < W.heap.size := by obtain ⟨m, hm⟩ := h1; exact DataW.trod_lt m _ _ _ hm
  obtain ⟨y1, rv1, nm1, wf1⟩ := qsm (d := 9) (c := (.sl (.int .i64))) false (by kernel_rfl) (by kernel_rfl) (by kernel_rfl) (hval 1 50 v1 rfl rfl) h1 hz1
  clear hA0 hval0
  obtain ⟨k, hk⟩ := qol y0 y1 wf0 wf1
  refine (qwi qyU (qGT k) (x := (y0.1, y0.2.1, y0.2.2, y1)) (y := true) hk rfl (args := [qiN true (.pr (.int .i64) (.pr (.sl (.pr (.int .i64) (.int .i64))) (.sl (.int .i64)))) y0, qiN false (.sl (.int .i64)) y1]) rfl (qrx rv0 (qrx rv1 qyi)) (qny nm0 (qny nm1 rfl))).mono fun e W' ⟨he, bel⟩ => ?_
  subst he
  exact ⟨_, rfl, _, _, _, [], _, [], hW', trodAll_mk1 (shut_bool Tryz.underlying4 _), (trodAll_cons_mk (Below.trod laidOut (by kernel_rfl) (of_decide_eq_true (by kernel_rfl)) h0 bel lt0) (trodAll_cons_mk (Below.trod laidOut (by kernel_rfl) (of_decide_eq_true (by kernel_rfl)) h1 bel lt1) trodAll_mk0)), rfl, bel.frame _, fun h => by cases h⟩
theorem over : Rows.waveCallsRow.holds Tryz.pinned (OpenSpec.ofChange Rows.waveCallsSpec) :=
  OpenClaim.holds_of_wide 4 Tryz.f4 rfl rfl rfl rfl rfl rfl rfl ⟨rfl, rfl, rfl, rfl, rfl⟩ rfl rfl rfl rfl rfl (by kernel_rfl) Tryz.func4 (by kernel_rfl)
    (of_decide_eq_true (by kernel_rfl)) (by unfold Func.isWrapper; first | (rw [if_pos (by decide +kernel)]; kernel_rfl) | (rw [if_neg (by decide +kernel)]; exact ⟨rfl, rfl⟩))
    (fun os started H enc _ => lifted os started H enc)
theorem proved : Rows.WaveCallsSaid := over
#print axioms proved
end Go.Proofs.YtbhnafdmilfobaaGreat.waveCalls
namespace Go.Proofs.YtbhnafdmilfobaaGreat
theorem waveCalls_holds : Rows.WaveCallsSaid := waveCalls.proved
end Go.Proofs.YtbhnafdmilfobaaGreat
