/- The law RatLcm returns true for every input, and its arguments read as they did. -/
import Derived.Test.YtjgpegpjmkgkkaaMRatLcm1
import Derived.Test.YtjgpegpjmkgkkaaRows
import Derived.WalkKit
import Derived.ProofKit
import Derived.OpenShut
import Derived.ShutString
import Derived.ChangeOld
import Derived.Below
import Derived.SizedLaws
import Derived.Carry

set_option linter.unusedVariables false
set_option linter.unusedSimpArgs false
set_option maxRecDepth 10000
namespace Go.Proofs.Ytjgpegpjmkgkkaa.Am
open Go

/-- What one round needs. -/
theorem div_round (b1 r : List Int) (x1 : Int) (hx : 0 ≤ x1 ∧ x1 < U) (cb : Cn U b1) (hb : 0 < V U b1) (cr : Cn U r) (hr : V U r < V U b1) (hlr : r.length ≤ 800000) (hlb : b1.length ≤ 800000) :
    ∃ d, (0 ≤ d ∧ d < U) ∧ Rn (fun k => Fshuntref01_digit k (tl (x1 :: r)) b1) d ∧ Rn (fun k => Fshuntref01_trim_mfi k (1 + r.length) (x1 :: r)) ((tl (x1 :: r)).length, x1 :: r) ∧
      (d = 0 → V U (tl (x1 :: r)) < V U b1) ∧ (0 < d → ∃ l s t m, Rn (fun k => Fshuntref01_Small k d) (false, l) ∧ Rn (fun k => Fshuntref01_Times k false b1 false l) (s, t) ∧ Rn (fun k => Fshuntref01_minus k (tl (x1 :: r)) t) m ∧
        Cn U m ∧ V U m < V U b1 ∧ V U m + V U b1 * d = x1 + U * V U r ∧ m.length ≤ b1.length) := by
  have hr0 := V_nonneg (B := U) (by decide) cr.1
  have dn : Dg U (x1 :: r) := Dg.cons hx cr.1
  have cn : Cn U (tl (x1 :: r)) := Cn.of dn
  have vn : V U (tl (x1 :: r)) = x1 + U * V U r := by rw [V_tl]; rfl
  have ln := tl_len (x1 :: r)
  have hlen : (x1 :: r).length = r.length + 1 := rfl
  have hlt : V U (tl (x1 :: r)) < U * V U b1 := by
    have : U * (V U r + 1) ≤ U * V U b1 := Int.mul_le_mul_of_nonneg_left (by omega) (by decide)
    rw [vn]; rw [Int.mul_add, Int.mul_one] at this; omega
  have hn0 := V_nonneg (B := U) (by decide) cn.1
  have hd := digit_ev (tl (x1 :: r)) b1 cn cb hb (by omega) (by omega) hlt
  have q0 : 0 ≤ V U (tl (x1 :: r)) / V U b1 := Int.ediv_nonneg hn0 (by omega)
  have q1 : V U (tl (x1 :: r)) / V U b1 < U := Int.ediv_lt_of_lt_mul hb hlt
  have qm := Int.emod_add_mul_ediv (V U (tl (x1 :: r))) (V U b1)
  have qa := Int.emod_nonneg (V U (tl (x1 :: r))) (show V U b1 ≠ 0 by omega)
  have qb := Int.emod_lt_of_pos (V U (tl (x1 :: r))) hb
  refine ⟨_, ⟨q0, q1⟩, hd, ?_, ?_, ?_⟩
  · have := rtrim_ev (1 + r.length) (x1 :: r) (by omega) (by omega)
    rwa [List.take_of_length_le (by omega)] at this
  · intro h; rw [h] at qm; omega
  · intro h
    generalize V U (tl (x1 :: r)) / V U b1 = d at *
    have q2 : d < 65536 := q1
    obtain ⟨l, s1, s2, s3⟩ := Small_ev d (by omega)
    have hq0 : decide (d < 0) = false := by simp; omega
    rw [hq0] at s1 s2
    obtain ⟨s, t, t1, t2, t3⟩ := Times_ev false false b1 l (nm_pos cb rfl) s2 (by omega) (by omega)
    have hvt : V U t = V U b1 * d := by
      have e := t2.abs (by decide)
      have : 0 ≤ V U b1 * d := Int.mul_nonneg (by omega) (by omega)
      omega
    obtain ⟨m, m1, m2, m3, m4⟩ := minus_ev (tl (x1 :: r)) t (by omega) cn.1 t2.c (by omega)
    refine ⟨l, s, t, m, s1, t1, m1, m2, by omega, by omega, ?_⟩
    refine Nat.le_of_not_lt fun hlt => ?_
    have := Cn.len_lt (B := U) (by decide) cb m2 hlt
    omega
/-- The loop's state: the rest stands in a cell's memory, or as its own. -/
def Dst (q : Nat) (i : Int) (a0 : Bool) (a1 : List Int) (b0 : Bool) (b1 qs r : List Int) (x : ((Nat × Nat × Int × Bool × List Int × Bool × List Int × Bool × Nat × Bool × Nat × List Int × List Int × List Int × List Int) ⊕ (Nat × List Int × Int × Bool × List Int × Bool × List Int × Bool × Nat × Bool × Nat × List Int × List Int × List Int))) : Prop :=
  (∃ mem m1 m2, x = .inl (q, r.length, i, a0, a1, b0, b1, false, 0, false, 0, qs, mem, m1, m2) ∧ r.length ≤ mem.length ∧ mem.take r.length = r) ∨ (∃ m1 m2, x = .inr (q, r, i, a0, a1, b0, b1, false, 0, false, 0, qs, m1, m2))
def Dout (q : Nat) (a0 : Bool) (a1 : List Int) (b0 : Bool) (b1 qs r : List Int) (x : ((Nat × Nat × Bool × List Int × Bool × List Int × Bool × Nat × Bool × Nat × List Int × List Int × List Int × List Int) ⊕ (Nat × List Int × Bool × List Int × Bool × List Int × Bool × Nat × Bool × Nat × List Int × List Int × List Int))) : Prop :=
  (∃ mem m1 m2, x = .inl (q, r.length, a0, a1, b0, b1, false, 0, false, 0, qs, mem, m1, m2) ∧ r.length ≤ mem.length ∧ mem.take r.length = r) ∨ (∃ m1 m2, x = .inr (q, r, a0, a1, b0, b1, false, 0, false, 0, qs, m1, m2))
theorem div_alg {b vq vr x d va vm : Int} (h : b * vq + vr = va) (e : vm + b * d = x + U * vr) : b * (d + U * vq) + vm = x + U * va := by
  subst h; grind
theorem div_loop (a0 b0 : Bool) (a1 b1 : List Int) (da : Dg U a1) (cb : Cn U b1) (hb : 0 < V U b1) (hla : a1.length ≤ 800000) (hlb : b1.length ≤ 800000) :
    ∀ (e : Nat) (qs r : List Int) x, e ≤ a1.length → qs.length = a1.length → Dg U qs → Cn U r → V U r < V U b1 → V U b1 * V U (qs.drop e) + V U r = V U (a1.drop e) → Dst a1.length ((e : Int) - 1) a0 a1 b0 b1 qs r x →
    ∃ qs' r' y, Dout a1.length a0 a1 b0 b1 qs' r' y ∧ (qs'.length = a1.length ∧ Dg U qs' ∧ Cn U r' ∧ V U r' < V U b1 ∧ V U b1 * V U qs' + V U r' = V U a1) ∧ ∃ K, ∀ k n, K ≤ k → e < n → Lshuntref01_Divide_0 k n x = some y := by
  intro e
  induction e with
  | zero =>
    intro qs r x he hl dq cr hr hv hx
    rcases hx with ⟨mem, m1, m2, rfl, h1, h2⟩ | ⟨m1, m2, rfl⟩
    · refine ⟨qs, r, _, .inl ⟨mem, m1, m2, rfl, h1, h2⟩, ⟨hl, dq, cr, hr, by simpa using hv⟩, 0, fun k n _ hn => ?_⟩
      obtain ⟨n, rfl⟩ : ∃ m, n = m + 1 := ⟨n - 1, by omega⟩
      show Lshuntref01_Divide_0s k (Lshuntref01_Divide_0 k n) _ = _
      unfold Lshuntref01_Divide_0s
      simp (config := { implicitDefEqProofs := false, maxSteps := 2000000 }) (disch := omega) only [ps, ↓reduceIte, reduceCtorEq, Int.reduceLT, Int.reduceLE, Int.reduceEq, Nat.reduceLT, Nat.reduceLeDiff, Nat.reduceEqDiff, Int.reduceNeg, eitherK, eitherK, Int.zero_sub, Int.natCast_zero]
    · refine ⟨qs, r, _, .inr ⟨m1, m2, rfl⟩, ⟨hl, dq, cr, hr, by simpa using hv⟩, 0, fun k n _ hn => ?_⟩
      obtain ⟨n, rfl⟩ : ∃ m, n = m + 1 := ⟨n - 1, by omega⟩
      show Lshuntref01_Divide_0s k (Lshuntref01_Divide_0 k n) _ = _
      unfold Lshuntref01_Divide_0s
      simp (config := { implicitDefEqProofs := false, maxSteps := 2000000 }) (disch := omega) only [ps, ↓reduceIte, reduceCtorEq, Int.reduceLT, Int.reduceLE, Int.reduceEq, Nat.reduceLT, Nat.reduceLeDiff, Nat.reduceEqDiff, Int.reduceNeg, eitherK, eitherK, Int.zero_sub, Int.natCast_zero]
  | succ j ih =>
    intro qs r x he hl dq cr hr hv hx
    have hlr : r.length ≤ b1.length := by
      refine Nat.le_of_not_lt fun hlt => ?_
      have := Cn.len_lt (B := U) (by decide) cb cr hlt
      omega
    obtain ⟨x1, hx1⟩ := get_of (show j < a1.length by omega)
    obtain ⟨x2, hx2⟩ := get_of (show j < qs.length by omega)
    obtain ⟨d, hd, ⟨K1, h1⟩, ⟨K2, h2⟩, h3, h4⟩ := div_round b1 r x1 (da.get hx1) cb hb cr hr (by omega) hlb
    have hjj : ((j + 1 : Nat) : Int) - 1 = (j : Int) := by omega
    have hdrop : (qs.set j d).drop j = d :: qs.drop (j + 1) := by
      rw [List.drop_eq_getElem_cons (by simp; omega)]
      simp [List.drop_set_of_lt]
    have htl := tl_take (x1 :: r)
    have ltl := tl_len (x1 :: r)
    have hlen : (x1 :: r).length = r.length + 1 := rfl
    have hVa := V_drop (B := U) hx1
    rw [hjj] at hx
    by_cases hd0 : d = 0
    · have hlt := h3 hd0
      subst hd0
      have cn : Cn U (tl (x1 :: r)) := Cn.of (Dg.cons (da.get hx1) cr.1)
      have vn : V U (tl (x1 :: r)) = x1 + U * V U r := by rw [V_tl]; rfl
      have key := ih (qs.set j 0) (tl (x1 :: r))
      have hvv : V U b1 * V U ((qs.set j 0).drop j) + V U (tl (x1 :: r)) = V U (a1.drop j) := by
        rw [hdrop, hVa]; simp only [V]; exact div_alg hv (by rw [vn]; omega)
      rcases hx with ⟨mem, m1, m2, rfl, g1, g2⟩ | ⟨m1, m2, rfl⟩
      · obtain ⟨qs', r', y, i1, i2, K, i3⟩ := key _ (by omega) (by simpa using hl) (dq.set j hd) cn hlt hvv (.inl ⟨x1 :: r, m1, m2, rfl, ltl, htl⟩)
        refine ⟨qs', r', y, i1, i2, max K (max K1 K2), fun k n hk hn => ?_⟩
        obtain ⟨n, rfl⟩ : ∃ m, n = m + 1 := ⟨n - 1, by omega⟩
        rw [← i3 k n (by omega) (by omega)]
        have c1 := h1 k (by omega)
        have c2 := h2 k (by omega)
        show Lshuntref01_Divide_0s k (Lshuntref01_Divide_0 k n) _ = _
        unfold Lshuntref01_Divide_0s
        simp only [eitherK]
        simp (config := { implicitDefEqProofs := false, maxSteps := 2000000 }) (disch := omega) only [ps, ↓reduceIte, reduceCtorEq, Int.reduceLT, Int.reduceLE, Int.reduceEq, Nat.reduceLT, Nat.reduceLeDiff, Nat.reduceEqDiff, Int.reduceNeg, eitherK, g2, hx1, hx2, c1, c2, htl, List.take_succ_cons, List.cons_append]
      · obtain ⟨qs', r', y, i1, i2, K, i3⟩ := key _ (by omega) (by simpa using hl) (dq.set j hd) cn hlt hvv (.inl ⟨x1 :: r, m1, m2, rfl, ltl, htl⟩)
        refine ⟨qs', r', y, i1, i2, max K (max K1 K2), fun k n hk hn => ?_⟩
        obtain ⟨n, rfl⟩ : ∃ m, n = m + 1 := ⟨n - 1, by omega⟩
        rw [← i3 k n (by omega) (by omega)]
        have c1 := h1 k (by omega)
        have c2 := h2 k (by omega)
        show Lshuntref01_Divide_0s k (Lshuntref01_Divide_0 k n) _ = _
        unfold Lshuntref01_Divide_0s
        simp only [eitherK]
        simp (config := { implicitDefEqProofs := false, maxSteps := 2000000 }) (disch := omega) only [ps, ↓reduceIte, reduceCtorEq, Int.reduceLT, Int.reduceLE, Int.reduceEq, Nat.reduceLT, Nat.reduceLeDiff, Nat.reduceEqDiff, Int.reduceNeg, eitherK, hx1, hx2, c1, c2, htl, List.take_succ_cons, List.cons_append]
    · obtain ⟨l, s, t, m, ⟨K3, s1⟩, ⟨K4, s2⟩, ⟨K5, s3⟩, s4, s5, s6, s7⟩ := h4 (by omega)
      have key := ih (qs.set j d) m
      have hvv : V U b1 * V U ((qs.set j d).drop j) + V U m = V U (a1.drop j) := by
        rw [hdrop, hVa]; simp only [V]; exact div_alg hv s6
      rcases hx with ⟨mem, m1, m2, rfl, g1, g2⟩ | ⟨m1, m2, rfl⟩
      · obtain ⟨qs', r', y, i1, i2, K, i3⟩ := key _ (by omega) (by simpa using hl) (dq.set j hd) s4 s5 hvv (.inr ⟨m1, m2, rfl⟩)
        refine ⟨qs', r', y, i1, i2, max K (max (max K1 K2) (max K3 (max K4 K5))), fun k n hk hn => ?_⟩
        obtain ⟨n, rfl⟩ : ∃ m, n = m + 1 := ⟨n - 1, by omega⟩
        rw [← i3 k n (by omega) (by omega)]
        have c1 := h1 k (by omega)
        have c2 := h2 k (by omega)
        have c3 := s1 k (by omega)
        have c4 := s2 k (by omega)
        have c5 := s3 k (by omega)
        show Lshuntref01_Divide_0s k (Lshuntref01_Divide_0 k n) _ = _
        unfold Lshuntref01_Divide_0s
        simp only [eitherK]
        simp (config := { implicitDefEqProofs := false, maxSteps := 2000000 }) (disch := omega) only [ps, ↓reduceIte, reduceCtorEq, Int.reduceLT, Int.reduceLE, Int.reduceEq, Nat.reduceLT, Nat.reduceLeDiff, Nat.reduceEqDiff, Int.reduceNeg, eitherK, g2, hx1, hx2, c1, c2, c3, c4, c5, htl, List.take_succ_cons, List.cons_append]
      · obtain ⟨qs', r', y, i1, i2, K, i3⟩ := key _ (by omega) (by simpa using hl) (dq.set j hd) s4 s5 hvv (.inr ⟨m1, m2, rfl⟩)
        refine ⟨qs', r', y, i1, i2, max K (max (max K1 K2) (max K3 (max K4 K5))), fun k n hk hn => ?_⟩
        obtain ⟨n, rfl⟩ : ∃ m, n = m + 1 := ⟨n - 1, by omega⟩
        rw [← i3 k n (by omega) (by omega)]
        have c1 := h1 k (by omega)
        have c2 := h2 k (by omega)
        have c3 := s1 k (by omega)
        have c4 := s2 k (by omega)
        have c5 := s3 k (by omega)
        show Lshuntref01_Divide_0s k (Lshuntref01_Divide_0 k n) _ = _
        unfold Lshuntref01_Divide_0s
        simp only [eitherK]
        simp (config := { implicitDefEqProofs := false, maxSteps := 2000000 }) (disch := omega) only [ps, ↓reduceIte, reduceCtorEq, Int.reduceLT, Int.reduceLE, Int.reduceEq, Nat.reduceLT, Nat.reduceLeDiff, Nat.reduceEqDiff, Int.reduceNeg, eitherK, hx1, hx2, c1, c2, c3, c4, c5, htl, List.take_succ_cons, List.cons_append]
end Go.Proofs.Ytjgpegpjmkgkkaa.Am

/- Plain reckoning: numbers lent and looked at again; the reference's calls of two numbers. -/
set_option linter.unusedVariables false
set_option linter.unusedSimpArgs false
set_option maxRecDepth 10000
namespace Go.Proofs.Ytjgpegpjmkgkkaa.Am
open Go

/-- The mark behind a number that is lent. -/
abbrev mk (a1 : List Int) : List Int := a1 ++ [11259375]
section
variable {a0 b0 : Bool} {a1 b1 : List Int} (la : a1.length ≤ 9223372036854775807) (lb : b1.length ≤ 9223372036854775807) (da : Dg W a1) (db : Dg W b1)
include la lb da db
end
end Go.Proofs.Ytjgpegpjmkgkkaa.Am

/- Plain reckoning: the reference's division and common divisor, whole. -/
set_option linter.unusedVariables false
set_option linter.unusedSimpArgs false
set_option maxRecDepth 10000
namespace Go.Proofs.Ytjgpegpjmkgkkaa.Am
open Go

set_option maxHeartbeats 1000000 in
theorem Divide_ev (a0 b0 : Bool) (a1 b1 : List Int) {x y : Int} (nx : Nm U a0 a1 x) (ny : Nm U b0 b1 y) (hla : a1.length ≤ 800000) (hlb : b1.length ≤ 800000) (hb0 : b1 ≠ []) :
    ∃ s q t r, Rn (fun k => Fshuntref01_Divide k a0 a1 b0 b1) (s, q, t, r) ∧ Nm U s q (x.tdiv y) ∧ Nm U t r (x.tmod y) ∧ q.length ≤ a1.length ∧ r.length ≤ b1.length := by
  have hb : 0 < V U b1 := by
    have p := V_nonneg (B := U) (by decide) ny.c.1
    have := mt (ny.c.nil_iff (B := U) (by decide)).2 hb0
    omega
  have pa := V_nonneg (B := U) (by decide) nx.c.1
  obtain ⟨qs, r, z, hz, ⟨lq, dq, cr, hr, hv⟩, K, hl⟩ := div_loop a0 b0 a1 b1 nx.c.1 ny.c hb hla hlb a1.length (List.replicate a1.length 0) [] _ (Nat.le_refl _) (by simp) (Dg.rep _ (by decide)) Cn.nil (by simpa [V] using hb) (by
    rw [List.drop_of_length_le (by simp), List.drop_of_length_le (by simp)]; simp [V]) (.inl ⟨[], [], [], rfl, by simp, rfl⟩)
  have hr0 := V_nonneg (B := U) (by decide) cr.1
  have hu := rdiv_uniq hv hr0 hr
  have cq : Cn U (tl qs) := Cn.of dq
  have e1 := rtdiv_sg a0 b0 (Y := V U b1) pa
  have e2 := rtmod_sg a0 b0 (Y := V U b1) pa
  rw [nx.z, ny.z, ← hu.1] at e1
  rw [nx.z, ny.z, ← hu.2] at e2
  have n1 := nm_sg (a0 := !(a0 == b0)) cq (V_tl qs)
  have n2 := nm_sg (a0 := a0) cr rfl
  have ltq := tl_len qs
  refine ⟨_, _, _, _, ?_, n1.cast e1.symm, n2.cast e2.symm, by omega, ?_⟩
  · refine Rn.up (f := fun k => Fshuntref01_Divide k a0 a1 b0 b1) (Rn.eq (K + a1.length + 4) fun k hk => ?_)
    show bshuntref01_Divide k a0 a1 b0 b1 = _
    unfold bshuntref01_Divide
    have hdec : ∀ l : List Int, decide ((0 : Int) < (l.length : Int)) = decide (0 < l.length) := fun l => by congr 1; simp
    have h1 : Lshuntref01_Divide_0 k k (Sum.inl (a1.length, 0, (a1.length : Int) - 1, a0, a1, b0, b1, false, 0, false, 0, List.replicate a1.length 0, [], [], [])) = some z := hl k k (by omega) (by omega)
    have h2 := rtrim_eq qs (by omega) k (by omega)
    rw [lq] at h2
    have h3 := tl_take qs
    rcases hz with ⟨mem, m1, m2, rfl, g1, g2⟩ | ⟨m1, m2, rfl⟩
    · simp (config := { implicitDefEqProofs := false, maxSteps := 2000000 }) (disch := omega) only [ps, ↓reduceIte, reduceCtorEq, Int.reduceLT, Int.reduceLE, Int.reduceEq, Nat.reduceLT, Nat.reduceLeDiff, Nat.reduceEqDiff, Int.reduceNeg, eitherK, h1]
      simp (config := { implicitDefEqProofs := false, maxSteps := 2000000 }) (disch := omega) only [ps, ↓reduceIte, reduceCtorEq, Int.reduceLT, Int.reduceLE, Int.reduceEq, Nat.reduceLT, Nat.reduceLeDiff, Nat.reduceEqDiff, Int.reduceNeg, eitherK, h2, g1]
      cases a0 <;> cases b0 <;> simp (config := { implicitDefEqProofs := false, maxSteps := 2000000 }) (disch := omega) only [ps, ↓reduceIte, reduceCtorEq, Int.reduceLT, Int.reduceLE, Int.reduceEq, Nat.reduceLT, Nat.reduceLeDiff, Nat.reduceEqDiff, Int.reduceNeg, eitherK, h3, g2, hdec, if_true, if_false]
    · simp (config := { implicitDefEqProofs := false, maxSteps := 2000000 }) (disch := omega) only [ps, ↓reduceIte, reduceCtorEq, Int.reduceLT, Int.reduceLE, Int.reduceEq, Nat.reduceLT, Nat.reduceLeDiff, Nat.reduceEqDiff, Int.reduceNeg, eitherK, h1]
      simp (config := { implicitDefEqProofs := false, maxSteps := 2000000 }) (disch := omega) only [ps, ↓reduceIte, reduceCtorEq, Int.reduceLT, Int.reduceLE, Int.reduceEq, Nat.reduceLT, Nat.reduceLeDiff, Nat.reduceEqDiff, Int.reduceNeg, eitherK, h2]
      cases a0 <;> cases b0 <;> simp (config := { implicitDefEqProofs := false, maxSteps := 2000000 }) (disch := omega) only [ps, ↓reduceIte, reduceCtorEq, Int.reduceLT, Int.reduceLE, Int.reduceEq, Nat.reduceLT, Nat.reduceLeDiff, Nat.reduceEqDiff, Int.reduceNeg, eitherK, h3, hdec, if_true, if_false]
  · refine Nat.le_of_not_lt fun hlt => ?_
    have := Cn.len_lt (B := U) (by decide) ny.c cr hlt
    omega
theorem common_loop (x0 : Bool) (x1 : Nat) (m : List Int) (M : Nat) (hM : M ≤ 800000) : ∀ (N : Nat) (a b : List Int), V U b ≤ N → Cn U a → Cn U b → a.length ≤ M → b.length ≤ M →
    ∃ l b1, (∃ K, ∀ k n, K ≤ k → N < n → Lshuntref01_Common_0 k n false a false b x0 x1 m = some (false, l, false, b1, x0, x1, m)) ∧ Cn U l ∧ V U l = Int.gcd (V U a) (V U b) ∧ l.length ≤ M := by
  intro N
  induction N using Nat.strongRecOn with
  | ind N ih =>
    intro a b hN ca cb ha hb
    have pa := V_nonneg (B := U) (by decide) ca.1
    by_cases h0 : b = []
    · subst h0
      refine ⟨a, [], ⟨0, fun k n _ hn => ?_⟩, ca, by simp [V]; omega, ha⟩
      obtain ⟨n, rfl⟩ : ∃ m, n = m + 1 := ⟨n - 1, by omega⟩
      show Lshuntref01_Common_0s k (Lshuntref01_Common_0 k n) _ _ _ _ _ _ _ = _
      unfold Lshuntref01_Common_0s
      simp (config := { implicitDefEqProofs := false, maxSteps := 2000000 }) (disch := omega) only [ps, ↓reduceIte, reduceCtorEq, Int.reduceLT, Int.reduceLE, Int.reduceEq, Nat.reduceLT, Nat.reduceLeDiff, Nat.reduceEqDiff, Int.reduceNeg, eitherK]
    · have pb : 0 < V U b := by
        have p := V_nonneg (B := U) (by decide) cb.1
        have := mt (cb.nil_iff (B := U) (by decide)).2 h0
        omega
      obtain ⟨s, q, t, r, ⟨K1, h1⟩, h2, h3, h4, h5⟩ := Divide_ev false false a b (nm_pos ca rfl) (nm_pos cb rfl) (by omega) (by omega) h0
      have hr0 := Int.emod_nonneg (V U a) (show V U b ≠ 0 by omega)
      have hr1 := Int.emod_lt_of_pos (V U a) pb
      rw [tmod_pos pa] at h3
      obtain ⟨R, hR⟩ := Int.eq_ofNat_of_zero_le hr0
      have ht : t = false := by rw [h3.neg (by decide)]; simp; omega
      subst ht
      have hvr : V U r = R := by rw [h3.abs (by decide), hR]; rfl
      obtain ⟨l, b1, ⟨K2, i1⟩, i2, i3, i4⟩ := ih R (by omega) b r (by omega) cb h3.c hb (by omega)
      refine ⟨l, b1, ⟨max K1 K2, fun k n hk hn => ?_⟩, i2, ?_, i4⟩
      · obtain ⟨n, rfl⟩ : ∃ m, n = m + 1 := ⟨n - 1, by omega⟩
        rw [← i1 k n (by omega) (by omega)]
        have c1 := h1 k (by omega)
        have lb : 0 < b.length := by
          cases b with
          | nil => exact absurd rfl h0
          | cons _ _ => simp
        show Lshuntref01_Common_0s k (Lshuntref01_Common_0 k n) _ _ _ _ _ _ _ = _
        unfold Lshuntref01_Common_0s
        simp (config := { implicitDefEqProofs := false, maxSteps := 2000000 }) (disch := omega) only [ps, ↓reduceIte, reduceCtorEq, Int.reduceLT, Int.reduceLE, Int.reduceEq, Nat.reduceLT, Nat.reduceLeDiff, Nat.reduceEqDiff, Int.reduceNeg, eitherK, c1]
      · rw [i3, hvr, ← hR]
        obtain ⟨A, hA⟩ := Int.eq_ofNat_of_zero_le pa
        obtain ⟨B, hB⟩ := Int.eq_ofNat_of_zero_le (Int.le_of_lt pb)
        rw [hA, hB]
        show (((Int.gcd (B : Int) ((A % B : Nat) : Int)) : Nat) : Int) = _
        rw [Int.gcd_natCast_natCast, Int.gcd_natCast_natCast, Nat.gcd_comm, ← Nat.gcd_rec, Nat.gcd_comm]
theorem Common_ev (a0 b0 : Bool) (a1 b1 : List Int) {x y : Int} (nx : Nm U a0 a1 x) (ny : Nm U b0 b1 y) (hx : a1.length ≤ 800000) (hy : b1.length ≤ 800000) :
    ∃ l, Rn (fun k => Fshuntref01_Common k a0 a1 b0 b1) (false, l) ∧ Nm U false l (Int.gcd x y) ∧ l.length ≤ max a1.length b1.length := by
  obtain ⟨N, hN⟩ := Int.eq_ofNat_of_zero_le (V_nonneg (B := U) (by decide) ny.c.1)
  obtain ⟨l, b', ⟨K, h1⟩, h2, h3, h4⟩ := common_loop false 0 [] (max a1.length b1.length) (by omega) N a1 b1 (by omega) nx.c ny.c (by omega) (by omega)
  have e : (Int.gcd (V U a1) (V U b1) : Int) = Int.gcd x y := by
    have e1 := nx.z
    have e2 := ny.z
    rw [← e1, ← e2]
    cases a0 <;> cases b0 <;> simp
  refine ⟨l, Rn.up (f := fun k => Fshuntref01_Common k a0 a1 b0 b1) ?_, nm_pos h2 (by rw [h3, e]), h4⟩
  have q1 : Rn (fun k => Fshuntref01_Abs k a0 a1) (false, a1) := Rn.up (f := fun k => Fshuntref01_Abs k a0 a1) (Rn.pure _)
  have q2 : Rn (fun k => Fshuntref01_Abs k b0 b1) (false, b1) := Rn.up (f := fun k => Fshuntref01_Abs k b0 b1) (Rn.pure _)
  refine Rn.bind (f := fun k => Fshuntref01_Abs k a0 a1) q1 (Rn.bind q2 ?_)
  exact Rn.bind (x := (false, l, false, b', false, 0, [])) (Rn.eq (K + N + 1) fun k hk => h1 k k (by omega) (by omega)) (Rn.pure _)
section
variable {a0 b0 : Bool} {a1 b1 : List Int} (la : a1.length ≤ 9223372036854775807) (lb : b1.length ≤ 9223372036854775807) (da : Dg W a1) (db : Dg W b1)
include la lb da db
end
end Go.Proofs.Ytjgpegpjmkgkkaa.Am

/- Plain reckoning: right fractions, and the layer's calls of two of them. -/
set_option linter.unusedVariables false
set_option linter.unusedSectionVars false
set_option linter.unusedSimpArgs false
set_option maxRecDepth 10000
namespace Go.Proofs.Ytjgpegpjmkgkkaa.Am
open Go

/-- What a fraction is refused for. -/
def faultR (n0 : Bool) (n1 : List Int) (d0 : Bool) (d1 : List Int) : Int :=
  if Ri n0 n1 ∧ Ri d0 d1 then (if d0 = false ∧ d1 ≠ [] ∧ Int.gcd (Zv W n0 n1) (Zv W d0 d1) = 1 then 0 else 20) else 10
theorem faultR_cases (n0 : Bool) (n1 : List Int) (d0 : Bool) (d1 : List Int) : faultR n0 n1 d0 d1 = 0 ∨ faultR n0 n1 d0 d1 = 10 ∨ faultR n0 n1 d0 d1 = 20 := by
  unfold faultR
  split
  · split
    · exact .inl rfl
    · exact .inr (.inr rfl)
  · exact .inr (.inl rfl)
theorem zv_pos {d1 : List Int} {d0 : Bool} (h0 : d0 = false) (hne : d1 ≠ []) (cd : Cn W d1) : 0 < Zv W d0 d1 := by
  subst h0
  have p := V_nonneg (B := W) (by decide) cd.1
  have q := mt (cd.nil_iff (B := W) (by decide)).2 hne
  simp [Zv]; omega
theorem num_of_one {x y : Int} (hy : 0 < y) (hg : Int.gcd x y = 1) : (Rat.divInt x y).num = x ∧ ((Rat.divInt x y).den : Int) = y := by
  refine ⟨?_, ?_⟩
  · rw [num_eq x (by omega), if_neg (by omega), hg]; simp
  · rw [den_eq x (by omega), if_neg (by omega), hg]; simp
theorem fault_fr {n0 d0 : Bool} {n1 d1 : List Int} (dn : Dg W n1) (dd : Dg W d1) (h : faultR n0 n1 d0 d1 = 0) : ∃ q, Fr n0 n1 d0 d1 q ∧ n1.length ≤ 72 ∧ d1.length ≤ 72 := by
  unfold faultR at h
  split at h
  · rename_i hr
    split at h
    · rename_i hc
      obtain ⟨h1, h2, h3⟩ := hc
      have a := hr.1.nm dn
      have b := hr.2.nm dd
      obtain ⟨e1, e2⟩ := num_of_one (zv_pos h1 h2 b.c) h3
      exact ⟨Rat.divInt (Zv W n0 n1) (Zv W d0 d1), ⟨a.cast e1.symm, b.cast e2.symm⟩, hr.1.1, hr.2.1⟩
    · cases h
  · cases h
theorem one_iff {l : List Int} {g : Nat} (h : Nm W false l g) : l = [1] ↔ g = 1 := by
  have hc : Cn W [1] := ⟨Dg.cons (by decide) Dg.nil, rfl⟩
  have hv := h.abs (by decide)
  constructor
  · rintro rfl
    simp [V] at hv
    omega
  · rintro rfl
    refine Cn.ext (B := W) (by decide) h.c hc ?_
    rw [hv]; simp [V]
section
variable {n0 d0 : Bool} {n1 d1 : List Int} (la : n1.length ≤ 9223372036854775807) (lb : d1.length ≤ 9223372036854775807) (da : Dg W n1) (db : Dg W d1)
include la lb da db
theorem ratCheck_ev : Rn (fun k => Frat_Check k n0 n1 d0 d1) (faultR n0 n1 d0 d1) := by
  refine Rn.up (f := fun k => Frat_Check k n0 n1 d0 d1) ?_
  show Rn (fun k => brat_Check k n0 n1 d0 d1) _
  unfold brat_Check
  refine Rn.bind (check_ev n0 n1 la da) ?_
  by_cases hn : Ri n0 n1
  case neg =>
    have e : faultR n0 n1 d0 d1 = 10 := if_neg (fun c => hn c.1)
    rw [e, if_neg hn]
    (first | (refine Rn.t ?hc ?_; case hc => simp (config := { implicitDefEqProofs := false, maxSteps := 2000000 }) (disch := omega) only [ps, ↓reduceIte, reduceCtorEq, Int.reduceLT, Int.reduceLE, Int.reduceEq, Nat.reduceLT, Nat.reduceLeDiff, Nat.reduceEqDiff, Int.reduceNeg, eitherK]) | (refine Rn.f ?hc ?_; case hc => simp (config := { implicitDefEqProofs := false, maxSteps := 2000000 }) (disch := omega) only [ps, ↓reduceIte, reduceCtorEq, Int.reduceLT, Int.reduceLE, Int.reduceEq, Nat.reduceLT, Nat.reduceLeDiff, Nat.reduceEqDiff, Int.reduceNeg, eitherK]))
    exact Rn.pure _
  rw [if_pos hn]
  (first | (refine Rn.t ?hc ?_; case hc => simp (config := { implicitDefEqProofs := false, maxSteps := 2000000 }) (disch := omega) only [ps, ↓reduceIte, reduceCtorEq, Int.reduceLT, Int.reduceLE, Int.reduceEq, Nat.reduceLT, Nat.reduceLeDiff, Nat.reduceEqDiff, Int.reduceNeg, eitherK]) | (refine Rn.f ?hc ?_; case hc => simp (config := { implicitDefEqProofs := false, maxSteps := 2000000 }) (disch := omega) only [ps, ↓reduceIte, reduceCtorEq, Int.reduceLT, Int.reduceLE, Int.reduceEq, Nat.reduceLT, Nat.reduceLeDiff, Nat.reduceEqDiff, Int.reduceNeg, eitherK]))
  refine Rn.bind (check_ev d0 d1 lb db) ?_
  by_cases hd : Ri d0 d1
  case neg =>
    have e : faultR n0 n1 d0 d1 = 10 := if_neg (fun c => hd c.2)
    rw [e, if_neg hd]
    (first | (refine Rn.t ?hc ?_; case hc => simp (config := { implicitDefEqProofs := false, maxSteps := 2000000 }) (disch := omega) only [ps, ↓reduceIte, reduceCtorEq, Int.reduceLT, Int.reduceLE, Int.reduceEq, Nat.reduceLT, Nat.reduceLeDiff, Nat.reduceEqDiff, Int.reduceNeg, eitherK]) | (refine Rn.f ?hc ?_; case hc => simp (config := { implicitDefEqProofs := false, maxSteps := 2000000 }) (disch := omega) only [ps, ↓reduceIte, reduceCtorEq, Int.reduceLT, Int.reduceLE, Int.reduceEq, Nat.reduceLT, Nat.reduceLeDiff, Nat.reduceEqDiff, Int.reduceNeg, eitherK]))
    exact Rn.pure _
  rw [if_pos hd]
  (first | (refine Rn.t ?hc ?_; case hc => simp (config := { implicitDefEqProofs := false, maxSteps := 2000000 }) (disch := omega) only [ps, ↓reduceIte, reduceCtorEq, Int.reduceLT, Int.reduceLE, Int.reduceEq, Nat.reduceLT, Nat.reduceLeDiff, Nat.reduceEqDiff, Int.reduceNeg, eitherK]) | (refine Rn.f ?hc ?_; case hc => simp (config := { implicitDefEqProofs := false, maxSteps := 2000000 }) (disch := omega) only [ps, ↓reduceIte, reduceCtorEq, Int.reduceLT, Int.reduceLE, Int.reduceEq, Nat.reduceLT, Nat.reduceLeDiff, Nat.reduceEqDiff, Int.reduceNeg, eitherK]))
  have e0 : faultR n0 n1 d0 d1 = if d0 = false ∧ d1 ≠ [] ∧ Int.gcd (Zv W n0 n1) (Zv W d0 d1) = 1 then 0 else 20 := if_pos ⟨hn, hd⟩
  cases d0
  case true =>
    rw [e0.trans (if_neg (fun c => by cases c.1))]
    (first | (refine Rn.t ?hc ?_; case hc => simp (config := { implicitDefEqProofs := false, maxSteps := 2000000 }) (disch := omega) only [ps, ↓reduceIte, reduceCtorEq, Int.reduceLT, Int.reduceLE, Int.reduceEq, Nat.reduceLT, Nat.reduceLeDiff, Nat.reduceEqDiff, Int.reduceNeg, eitherK]) | (refine Rn.f ?hc ?_; case hc => simp (config := { implicitDefEqProofs := false, maxSteps := 2000000 }) (disch := omega) only [ps, ↓reduceIte, reduceCtorEq, Int.reduceLT, Int.reduceLE, Int.reduceEq, Nat.reduceLT, Nat.reduceLeDiff, Nat.reduceEqDiff, Int.reduceNeg, eitherK]))
    exact Rn.pure _
  (first | (refine Rn.t ?hc ?_; case hc => simp (config := { implicitDefEqProofs := false, maxSteps := 2000000 }) (disch := omega) only [ps, ↓reduceIte, reduceCtorEq, Int.reduceLT, Int.reduceLE, Int.reduceEq, Nat.reduceLT, Nat.reduceLeDiff, Nat.reduceEqDiff, Int.reduceNeg, eitherK]) | (refine Rn.f ?hc ?_; case hc => simp (config := { implicitDefEqProofs := false, maxSteps := 2000000 }) (disch := omega) only [ps, ↓reduceIte, reduceCtorEq, Int.reduceLT, Int.reduceLE, Int.reduceEq, Nat.reduceLT, Nat.reduceLeDiff, Nat.reduceEqDiff, Int.reduceNeg, eitherK]))
  by_cases h0 : d1 = []
  · rw [e0.trans (if_neg (fun c => c.2.1 h0))]
    subst h0
    (first | (refine Rn.t ?hc ?_; case hc => simp (config := { implicitDefEqProofs := false, maxSteps := 2000000 }) (disch := omega) only [ps, ↓reduceIte, reduceCtorEq, Int.reduceLT, Int.reduceLE, Int.reduceEq, Nat.reduceLT, Nat.reduceLeDiff, Nat.reduceEqDiff, Int.reduceNeg, eitherK]) | (refine Rn.f ?hc ?_; case hc => simp (config := { implicitDefEqProofs := false, maxSteps := 2000000 }) (disch := omega) only [ps, ↓reduceIte, reduceCtorEq, Int.reduceLT, Int.reduceLE, Int.reduceEq, Nat.reduceLT, Nat.reduceLeDiff, Nat.reduceEqDiff, Int.reduceNeg, eitherK]))
    exact Rn.pure _
  · have l0 : 0 < d1.length := by
      cases d1 with
      | nil => exact absurd rfl h0
      | cons _ _ => simp
    (first | (refine Rn.t ?hc ?_; case hc => simp (config := { implicitDefEqProofs := false, maxSteps := 2000000 }) (disch := omega) only [ps, ↓reduceIte, reduceCtorEq, Int.reduceLT, Int.reduceLE, Int.reduceEq, Nat.reduceLT, Nat.reduceLeDiff, Nat.reduceEqDiff, Int.reduceNeg, eitherK]) | (refine Rn.f ?hc ?_; case hc => simp (config := { implicitDefEqProofs := false, maxSteps := 2000000 }) (disch := omega) only [ps, ↓reduceIte, reduceCtorEq, Int.reduceLT, Int.reduceLE, Int.reduceEq, Nat.reduceLT, Nat.reduceLeDiff, Nat.reduceEqDiff, Int.reduceNeg, eitherK]))
    obtain ⟨l, g1, g2, g3⟩ := limbGcd_ev la lb da db hn hd
    refine Rn.bind g1 ?_
    have ho := one_iff g2
    by_cases hg : Int.gcd (Zv W n0 n1) (Zv W false d1) = 1
    · rw [e0.trans (if_pos ⟨rfl, h0, hg⟩)]
      have hl := ho.2 hg
      subst hl
      (first | (refine Rn.t ?hc ?_; case hc => simp (config := { implicitDefEqProofs := false, maxSteps := 2000000 }) (disch := omega) only [ps, ↓reduceIte, reduceCtorEq, Int.reduceLT, Int.reduceLE, Int.reduceEq, Nat.reduceLT, Nat.reduceLeDiff, Nat.reduceEqDiff, Int.reduceNeg, eitherK, List.length_cons]) | (refine Rn.f ?hc ?_; case hc => simp (config := { implicitDefEqProofs := false, maxSteps := 2000000 }) (disch := omega) only [ps, ↓reduceIte, reduceCtorEq, Int.reduceLT, Int.reduceLE, Int.reduceEq, Nat.reduceLT, Nat.reduceLeDiff, Nat.reduceEqDiff, Int.reduceNeg, eitherK, List.length_cons]))
      refine Rn.at (x := 1) rfl ?_
      (first | (refine Rn.t ?hc ?_; case hc => simp (config := { implicitDefEqProofs := false, maxSteps := 2000000 }) (disch := omega) only [ps, ↓reduceIte, reduceCtorEq, Int.reduceLT, Int.reduceLE, Int.reduceEq, Nat.reduceLT, Nat.reduceLeDiff, Nat.reduceEqDiff, Int.reduceNeg, eitherK]) | (refine Rn.f ?hc ?_; case hc => simp (config := { implicitDefEqProofs := false, maxSteps := 2000000 }) (disch := omega) only [ps, ↓reduceIte, reduceCtorEq, Int.reduceLT, Int.reduceLE, Int.reduceEq, Nat.reduceLT, Nat.reduceLeDiff, Nat.reduceEqDiff, Int.reduceNeg, eitherK]))
      exact Rn.pure _
    · rw [e0.trans (if_neg (fun c => hg c.2.2))]
      by_cases hlen : l.length = 1
      · obtain ⟨x, rfl⟩ : ∃ x, l = [x] := by
          match l, hlen with
          | [x], _ => exact ⟨x, rfl⟩
        (first | (refine Rn.t ?hc ?_; case hc => simp (config := { implicitDefEqProofs := false, maxSteps := 2000000 }) (disch := omega) only [ps, ↓reduceIte, reduceCtorEq, Int.reduceLT, Int.reduceLE, Int.reduceEq, Nat.reduceLT, Nat.reduceLeDiff, Nat.reduceEqDiff, Int.reduceNeg, eitherK, List.length_cons]) | (refine Rn.f ?hc ?_; case hc => simp (config := { implicitDefEqProofs := false, maxSteps := 2000000 }) (disch := omega) only [ps, ↓reduceIte, reduceCtorEq, Int.reduceLT, Int.reduceLE, Int.reduceEq, Nat.reduceLT, Nat.reduceLeDiff, Nat.reduceEqDiff, Int.reduceNeg, eitherK, List.length_cons]))
        refine Rn.at (x := x) rfl ?_
        have hx : x ≠ 1 := fun h => hg (ho.1 (by rw [h]))
        (first | (refine Rn.t ?hc ?_; case hc => simp (config := { implicitDefEqProofs := false, maxSteps := 2000000 }) (disch := omega) only [ps, ↓reduceIte, reduceCtorEq, Int.reduceLT, Int.reduceLE, Int.reduceEq, Nat.reduceLT, Nat.reduceLeDiff, Nat.reduceEqDiff, Int.reduceNeg, eitherK]) | (refine Rn.f ?hc ?_; case hc => simp (config := { implicitDefEqProofs := false, maxSteps := 2000000 }) (disch := omega) only [ps, ↓reduceIte, reduceCtorEq, Int.reduceLT, Int.reduceLE, Int.reduceEq, Nat.reduceLT, Nat.reduceLeDiff, Nat.reduceEqDiff, Int.reduceNeg, eitherK]))
        exact Rn.pure _
      · (first | (refine Rn.t ?hc ?_; case hc => simp (config := { implicitDefEqProofs := false, maxSteps := 2000000 }) (disch := omega) only [ps, ↓reduceIte, reduceCtorEq, Int.reduceLT, Int.reduceLE, Int.reduceEq, Nat.reduceLT, Nat.reduceLeDiff, Nat.reduceEqDiff, Int.reduceNeg, eitherK]) | (refine Rn.f ?hc ?_; case hc => simp (config := { implicitDefEqProofs := false, maxSteps := 2000000 }) (disch := omega) only [ps, ↓reduceIte, reduceCtorEq, Int.reduceLT, Int.reduceLE, Int.reduceEq, Nat.reduceLT, Nat.reduceLeDiff, Nat.reduceEqDiff, Int.reduceNeg, eitherK]))
        exact Rn.pure _
theorem refFault_ev : Rn (fun k => Fshuntref02_Fault k n0 n1 d0 d1) (faultR n0 n1 d0 d1) := by
  refine Rn.up (f := fun k => Fshuntref02_Fault k n0 n1 d0 d1) ?_
  show Rn (fun k => bshuntref02_Fault k n0 n1 d0 d1) _
  unfold bshuntref02_Fault
  refine Rn.bind (right_ev n0 n1 la da) ?_
  by_cases hn : Ri n0 n1
  case neg =>
    have e : faultR n0 n1 d0 d1 = 10 := if_neg (fun c => hn c.1)
    rw [e]
    (first | (refine Rn.t ?hc ?_; case hc => simp (config := { implicitDefEqProofs := false, maxSteps := 2000000 }) (disch := omega) only [ps, ↓reduceIte, reduceCtorEq, Int.reduceLT, Int.reduceLE, Int.reduceEq, Nat.reduceLT, Nat.reduceLeDiff, Nat.reduceEqDiff, Int.reduceNeg, eitherK, hn, decide_false]) | (refine Rn.f ?hc ?_; case hc => simp (config := { implicitDefEqProofs := false, maxSteps := 2000000 }) (disch := omega) only [ps, ↓reduceIte, reduceCtorEq, Int.reduceLT, Int.reduceLE, Int.reduceEq, Nat.reduceLT, Nat.reduceLeDiff, Nat.reduceEqDiff, Int.reduceNeg, eitherK, hn, decide_false]))
    exact Rn.pure _
  (first | (refine Rn.t ?hc ?_; case hc => simp (config := { implicitDefEqProofs := false, maxSteps := 2000000 }) (disch := omega) only [ps, ↓reduceIte, reduceCtorEq, Int.reduceLT, Int.reduceLE, Int.reduceEq, Nat.reduceLT, Nat.reduceLeDiff, Nat.reduceEqDiff, Int.reduceNeg, eitherK, hn, decide_true]) | (refine Rn.f ?hc ?_; case hc => simp (config := { implicitDefEqProofs := false, maxSteps := 2000000 }) (disch := omega) only [ps, ↓reduceIte, reduceCtorEq, Int.reduceLT, Int.reduceLE, Int.reduceEq, Nat.reduceLT, Nat.reduceLeDiff, Nat.reduceEqDiff, Int.reduceNeg, eitherK, hn, decide_true]))
  refine Rn.bind (right_ev d0 d1 lb db) ?_
  by_cases hd : Ri d0 d1
  case neg =>
    have e : faultR n0 n1 d0 d1 = 10 := if_neg (fun c => hd c.2)
    rw [e]
    (first | (refine Rn.t ?hc ?_; case hc => simp (config := { implicitDefEqProofs := false, maxSteps := 2000000 }) (disch := omega) only [ps, ↓reduceIte, reduceCtorEq, Int.reduceLT, Int.reduceLE, Int.reduceEq, Nat.reduceLT, Nat.reduceLeDiff, Nat.reduceEqDiff, Int.reduceNeg, eitherK, hd, decide_false]) | (refine Rn.f ?hc ?_; case hc => simp (config := { implicitDefEqProofs := false, maxSteps := 2000000 }) (disch := omega) only [ps, ↓reduceIte, reduceCtorEq, Int.reduceLT, Int.reduceLE, Int.reduceEq, Nat.reduceLT, Nat.reduceLeDiff, Nat.reduceEqDiff, Int.reduceNeg, eitherK, hd, decide_false]))
    exact Rn.pure _
  (first | (refine Rn.t ?hc ?_; case hc => simp (config := { implicitDefEqProofs := false, maxSteps := 2000000 }) (disch := omega) only [ps, ↓reduceIte, reduceCtorEq, Int.reduceLT, Int.reduceLE, Int.reduceEq, Nat.reduceLT, Nat.reduceLeDiff, Nat.reduceEqDiff, Int.reduceNeg, eitherK, hd, decide_true]) | (refine Rn.f ?hc ?_; case hc => simp (config := { implicitDefEqProofs := false, maxSteps := 2000000 }) (disch := omega) only [ps, ↓reduceIte, reduceCtorEq, Int.reduceLT, Int.reduceLE, Int.reduceEq, Nat.reduceLT, Nat.reduceLeDiff, Nat.reduceEqDiff, Int.reduceNeg, eitherK, hd, decide_true]))
  have e0 : faultR n0 n1 d0 d1 = if d0 = false ∧ d1 ≠ [] ∧ Int.gcd (Zv W n0 n1) (Zv W d0 d1) = 1 then 0 else 20 := if_pos ⟨hn, hd⟩
  cases d0
  case true =>
    rw [e0.trans (if_neg (fun c => by cases c.1))]
    (first | (refine Rn.t ?hc ?_; case hc => simp (config := { implicitDefEqProofs := false, maxSteps := 2000000 }) (disch := omega) only [ps, ↓reduceIte, reduceCtorEq, Int.reduceLT, Int.reduceLE, Int.reduceEq, Nat.reduceLT, Nat.reduceLeDiff, Nat.reduceEqDiff, Int.reduceNeg, eitherK]) | (refine Rn.f ?hc ?_; case hc => simp (config := { implicitDefEqProofs := false, maxSteps := 2000000 }) (disch := omega) only [ps, ↓reduceIte, reduceCtorEq, Int.reduceLT, Int.reduceLE, Int.reduceEq, Nat.reduceLT, Nat.reduceLeDiff, Nat.reduceEqDiff, Int.reduceNeg, eitherK]))
    exact Rn.pure _
  (first | (refine Rn.t ?hc ?_; case hc => simp (config := { implicitDefEqProofs := false, maxSteps := 2000000 }) (disch := omega) only [ps, ↓reduceIte, reduceCtorEq, Int.reduceLT, Int.reduceLE, Int.reduceEq, Nat.reduceLT, Nat.reduceLeDiff, Nat.reduceEqDiff, Int.reduceNeg, eitherK]) | (refine Rn.f ?hc ?_; case hc => simp (config := { implicitDefEqProofs := false, maxSteps := 2000000 }) (disch := omega) only [ps, ↓reduceIte, reduceCtorEq, Int.reduceLT, Int.reduceLE, Int.reduceEq, Nat.reduceLT, Nat.reduceLeDiff, Nat.reduceEqDiff, Int.reduceNeg, eitherK]))
  by_cases h0 : d1 = []
  · rw [e0.trans (if_neg (fun c => c.2.1 h0))]
    subst h0
    (first | (refine Rn.t ?hc ?_; case hc => simp (config := { implicitDefEqProofs := false, maxSteps := 2000000 }) (disch := omega) only [ps, ↓reduceIte, reduceCtorEq, Int.reduceLT, Int.reduceLE, Int.reduceEq, Nat.reduceLT, Nat.reduceLeDiff, Nat.reduceEqDiff, Int.reduceNeg, eitherK]) | (refine Rn.f ?hc ?_; case hc => simp (config := { implicitDefEqProofs := false, maxSteps := 2000000 }) (disch := omega) only [ps, ↓reduceIte, reduceCtorEq, Int.reduceLT, Int.reduceLE, Int.reduceEq, Nat.reduceLT, Nat.reduceLeDiff, Nat.reduceEqDiff, Int.reduceNeg, eitherK]))
    exact Rn.pure _
  · have l0 : 0 < d1.length := by
      cases d1 with
      | nil => exact absurd rfl h0
      | cons _ _ => simp
    have k1 := hn.1
    have k2 := hd.1
    (first | (refine Rn.t ?hc ?_; case hc => simp (config := { implicitDefEqProofs := false, maxSteps := 2000000 }) (disch := omega) only [ps, ↓reduceIte, reduceCtorEq, Int.reduceLT, Int.reduceLE, Int.reduceEq, Nat.reduceLT, Nat.reduceLeDiff, Nat.reduceEqDiff, Int.reduceNeg, eitherK]) | (refine Rn.f ?hc ?_; case hc => simp (config := { implicitDefEqProofs := false, maxSteps := 2000000 }) (disch := omega) only [ps, ↓reduceIte, reduceCtorEq, Int.reduceLT, Int.reduceLE, Int.reduceEq, Nat.reduceLT, Nat.reduceLeDiff, Nat.reduceEqDiff, Int.reduceNeg, eitherK]))
    obtain ⟨l1, p1, p2, p3⟩ := rTake_ev n0 n1 (by omega) (hn.nm da)
    obtain ⟨l2, q1, q2, q3⟩ := rTake_ev false d1 (by omega) (hd.nm db)
    obtain ⟨l, r1, r2, r3⟩ := Common_ev n0 false l1 l2 p2 q2 (by omega) (by omega)
    obtain ⟨o, s1, s2, s3⟩ := Small_ev 1 (by decide)
    have hh := Held_ev false (decide ((1 : Int) < 0)) l o r2 s2 (by omega) (by omega)
    refine Rn.bind p1 (Rn.bind q1 (Rn.bind r1 (Rn.bind s1 (Rn.bind hh ?_))))
    obtain ⟨c, hc, hcc⟩ := cmpZ_cases ((Int.gcd (Zv W n0 n1) (Zv W false d1) : Nat) : Int) 1
    rw [hc]
    by_cases hg : Int.gcd (Zv W n0 n1) (Zv W false d1) = 1
    · rw [e0.trans (if_pos ⟨rfl, h0, hg⟩)]
      (first | (refine Rn.t ?hc ?_; case hc => simp (config := { implicitDefEqProofs := false, maxSteps := 2000000 }) (disch := omega) only [ps, ↓reduceIte, reduceCtorEq, Int.reduceLT, Int.reduceLE, Int.reduceEq, Nat.reduceLT, Nat.reduceLeDiff, Nat.reduceEqDiff, Int.reduceNeg, eitherK]) | (refine Rn.f ?hc ?_; case hc => simp (config := { implicitDefEqProofs := false, maxSteps := 2000000 }) (disch := omega) only [ps, ↓reduceIte, reduceCtorEq, Int.reduceLT, Int.reduceLE, Int.reduceEq, Nat.reduceLT, Nat.reduceLeDiff, Nat.reduceEqDiff, Int.reduceNeg, eitherK]))
      exact Rn.pure _
    · rw [e0.trans (if_neg (fun c => hg c.2.2))]
      (first | (refine Rn.t ?hc ?_; case hc => simp (config := { implicitDefEqProofs := false, maxSteps := 2000000 }) (disch := omega) only [ps, ↓reduceIte, reduceCtorEq, Int.reduceLT, Int.reduceLE, Int.reduceEq, Nat.reduceLT, Nat.reduceLeDiff, Nat.reduceEqDiff, Int.reduceNeg, eitherK]) | (refine Rn.f ?hc ?_; case hc => simp (config := { implicitDefEqProofs := false, maxSteps := 2000000 }) (disch := omega) only [ps, ↓reduceIte, reduceCtorEq, Int.reduceLT, Int.reduceLE, Int.reduceEq, Nat.reduceLT, Nat.reduceLeDiff, Nat.reduceEqDiff, Int.reduceNeg, eitherK]))
      exact Rn.pure _
end
/-- A fraction's words, as a list's element. -/
abbrev RT := (Bool × List Int) × Bool × List Int
def RT.f (r : RT) : Int := faultR r.1.1 r.1.2 r.2.1 r.2.2
def RT.good (r : RT) : Prop := (r.1.2.length ≤ 9223372036854775807 ∧ Dg W r.1.2) ∧ r.2.2.length ≤ 9223372036854775807 ∧ Dg W r.2.2
def faultsR : Int → List RT → Int
  | w, [] => w
  | w, r :: t => if r.f = 10 then 10 else if r.f = 20 then faultsR 20 t else faultsR w t
def outA (o : (Int × Bool × List Int × Bool × List Int) ⊕ Int) : Int := match o with
  | .inl r => r.1
  | .inr r => r
theorem all_loop (l : List RT) (hl : l.length ≤ 1000000000000000000) (hg : ∀ r ∈ l, r.good) : ∀ (d i : Nat) (w : Int), i + d = l.length → ∃ o, (∃ K, ∀ k n, K ≤ k → d < n → Lrat_all_0 k n w l l.length i = some o) ∧ outA o = faultsR w (l.drop i) := by
  intro d
  induction d with
  | zero =>
    intro i w hi
    refine ⟨.inr w, ⟨0, fun k n _ hn => ?_⟩, ?_⟩
    · obtain ⟨n, rfl⟩ : ∃ m, n = m + 1 := ⟨n - 1, by omega⟩
      show Lrat_all_0s k (Lrat_all_0 k n) _ _ _ _ = _
      unfold Lrat_all_0s
      simp (config := { implicitDefEqProofs := false, maxSteps := 2000000 }) (disch := omega) only [ps, ↓reduceIte, reduceCtorEq, Int.reduceLT, Int.reduceLE, Int.reduceEq, Nat.reduceLT, Nat.reduceLeDiff, Nat.reduceEqDiff, Int.reduceNeg, eitherK]
    · rw [List.drop_of_length_le (by omega)]; rfl
  | succ d ih =>
    intro i w hi
    have hil : i < l.length := by omega
    obtain ⟨r, hr⟩ : ∃ r, l[i]? = some r := ⟨l[i], List.getElem?_eq_getElem hil⟩
    have hdrop : l.drop i = r :: l.drop (i + 1) := by
      rw [List.drop_eq_getElem_cons hil]
      rw [List.getElem?_eq_getElem hil] at hr
      cases hr; rfl
    have hgr := hg r (List.mem_of_getElem? hr)
    obtain ⟨K, hc⟩ := ratCheck_ev (n0 := r.1.1) (d0 := r.2.1) hgr.1.1 hgr.2.1 hgr.1.2 hgr.2.2
    have h1 : ((i : Int) + 1) = ((i + 1 : Nat) : Int) := rfl
    rw [hdrop]
    have hcs := faultR_cases r.1.1 r.1.2 r.2.1 r.2.2
    have step : ∀ (o : (Int × Bool × List Int × Bool × List Int) ⊕ Int) (K' : Nat), (∀ k n, K' ≤ k → d < n → Lrat_all_0s k (Lrat_all_0 k n) w l l.length i = some o) → ∃ K, ∀ k n, K ≤ k → d + 1 < n → Lrat_all_0 k n w l l.length i = some o := by
      intro o K' h
      refine ⟨K', fun k n hk hn => ?_⟩
      obtain ⟨n, rfl⟩ : ∃ m, n = m + 1 := ⟨n - 1, by omega⟩
      exact h k n hk (by omega)
    rcases hcs with hf | hf | hf
    · obtain ⟨o, ⟨K2, i1⟩, i2⟩ := ih (i + 1) w (by omega)
      refine ⟨o, step o (max K K2) fun k n hk hn => ?_, by rw [i2]; simp only [faultsR, RT.f, hf]; rfl⟩
      have c := hc k (by omega)
      rw [hf] at c
      rw [← i1 k n (by omega) hn]
      unfold Lrat_all_0s
      simp (config := { implicitDefEqProofs := false, maxSteps := 2000000 }) (disch := omega) only [ps, ↓reduceIte, reduceCtorEq, Int.reduceLT, Int.reduceLE, Int.reduceEq, Nat.reduceLT, Nat.reduceLeDiff, Nat.reduceEqDiff, Int.reduceNeg, eitherK, hr, c, h1]
    · refine ⟨_, step (.inl (10, r.1.1, r.1.2, r.2.1, r.2.2)) K fun k n hk hn => ?_, by simp only [faultsR, RT.f, hf]; rfl⟩
      have c := hc k (by omega)
      rw [hf] at c
      unfold Lrat_all_0s
      simp (config := { implicitDefEqProofs := false, maxSteps := 2000000 }) (disch := omega) only [ps, ↓reduceIte, reduceCtorEq, Int.reduceLT, Int.reduceLE, Int.reduceEq, Nat.reduceLT, Nat.reduceLeDiff, Nat.reduceEqDiff, Int.reduceNeg, eitherK, hr, c]
    · obtain ⟨o, ⟨K2, i1⟩, i2⟩ := ih (i + 1) 20 (by omega)
      refine ⟨o, step o (max K K2) fun k n hk hn => ?_, by rw [i2]; simp only [faultsR, RT.f, hf]; rfl⟩
      have c := hc k (by omega)
      rw [hf] at c
      rw [← i1 k n (by omega) hn]
      unfold Lrat_all_0s
      simp (config := { implicitDefEqProofs := false, maxSteps := 2000000 }) (disch := omega) only [ps, ↓reduceIte, reduceCtorEq, Int.reduceLT, Int.reduceLE, Int.reduceEq, Nat.reduceLT, Nat.reduceLeDiff, Nat.reduceEqDiff, Int.reduceNeg, eitherK, hr, c, h1]
theorem all_ev (l : List RT) (hl : l.length ≤ 1000000000000000000) (hg : ∀ r ∈ l, r.good) : Rn (fun k => Frat_all k l) (faultsR 0 l) := by
  obtain ⟨o, ⟨K, h1⟩, h2⟩ := all_loop l hl hg l.length 0 0 (by omega)
  refine Rn.up (f := fun k => Frat_all k l) (Rn.eq (K + l.length + 1) fun k hk => ?_)
  show brat_all k l = _
  unfold brat_all
  have h1' : Lrat_all_0 k k 0 l l.length (0 : Int) = some o := h1 k k (by omega) (by omega)
  rw [h1', Option.bind_some]
  rw [List.drop_zero] at h2
  rw [← h2]
  cases o <;> rfl
def outF (o : Int ⊕ Int) : Int := match o with
  | .inl r => r
  | .inr r => r
theorem faults_loop (l : List RT) (hl : l.length ≤ 1000000000000000000) (hg : ∀ r ∈ l, r.good) : ∀ (d i : Nat) (w : Int), i + d = l.length → ∃ o, (∃ K, ∀ k n, K ≤ k → d < n → Lshuntref02_Faults_0 k n l w i = some o) ∧ outF o = faultsR w (l.drop i) := by
  intro d
  induction d with
  | zero =>
    intro i w hi
    refine ⟨.inr w, ⟨0, fun k n _ hn => ?_⟩, ?_⟩
    · obtain ⟨n, rfl⟩ : ∃ m, n = m + 1 := ⟨n - 1, by omega⟩
      show Lshuntref02_Faults_0s k (Lshuntref02_Faults_0 k n) _ _ _ = _
      unfold Lshuntref02_Faults_0s
      simp (config := { implicitDefEqProofs := false, maxSteps := 2000000 }) (disch := omega) only [ps, ↓reduceIte, reduceCtorEq, Int.reduceLT, Int.reduceLE, Int.reduceEq, Nat.reduceLT, Nat.reduceLeDiff, Nat.reduceEqDiff, Int.reduceNeg, eitherK]
    · rw [List.drop_of_length_le (by omega)]; rfl
  | succ d ih =>
    intro i w hi
    have hil : i < l.length := by omega
    obtain ⟨r, hr⟩ : ∃ r, l[i]? = some r := ⟨l[i], List.getElem?_eq_getElem hil⟩
    have hdrop : l.drop i = r :: l.drop (i + 1) := by
      rw [List.drop_eq_getElem_cons hil]
      rw [List.getElem?_eq_getElem hil] at hr
      cases hr; rfl
    have hgr := hg r (List.mem_of_getElem? hr)
    obtain ⟨K, hc⟩ := refFault_ev (n0 := r.1.1) (d0 := r.2.1) hgr.1.1 hgr.2.1 hgr.1.2 hgr.2.2
    have h1 : ((i : Int) + 1) = ((i + 1 : Nat) : Int) := rfl
    rw [hdrop]
    have hcs := faultR_cases r.1.1 r.1.2 r.2.1 r.2.2
    have step : ∀ (o : Int ⊕ Int) (K' : Nat), (∀ k n, K' ≤ k → d < n → Lshuntref02_Faults_0s k (Lshuntref02_Faults_0 k n) l w i = some o) → ∃ K, ∀ k n, K ≤ k → d + 1 < n → Lshuntref02_Faults_0 k n l w i = some o := by
      intro o K' h
      refine ⟨K', fun k n hk hn => ?_⟩
      obtain ⟨n, rfl⟩ : ∃ m, n = m + 1 := ⟨n - 1, by omega⟩
      exact h k n hk (by omega)
    rcases hcs with hf | hf | hf
    · obtain ⟨o, ⟨K2, i1⟩, i2⟩ := ih (i + 1) w (by omega)
      refine ⟨o, step o (max K K2) fun k n hk hn => ?_, by rw [i2]; simp only [faultsR, RT.f, hf]; rfl⟩
      have c := hc k (by omega)
      rw [hf] at c
      rw [← i1 k n (by omega) hn]
      unfold Lshuntref02_Faults_0s
      simp (config := { implicitDefEqProofs := false, maxSteps := 2000000 }) (disch := omega) only [ps, ↓reduceIte, reduceCtorEq, Int.reduceLT, Int.reduceLE, Int.reduceEq, Nat.reduceLT, Nat.reduceLeDiff, Nat.reduceEqDiff, Int.reduceNeg, eitherK, hr, c, h1]
    · refine ⟨_, step (.inl 10) K fun k n hk hn => ?_, by simp only [faultsR, RT.f, hf]; rfl⟩
      have c := hc k (by omega)
      rw [hf] at c
      unfold Lshuntref02_Faults_0s
      simp (config := { implicitDefEqProofs := false, maxSteps := 2000000 }) (disch := omega) only [ps, ↓reduceIte, reduceCtorEq, Int.reduceLT, Int.reduceLE, Int.reduceEq, Nat.reduceLT, Nat.reduceLeDiff, Nat.reduceEqDiff, Int.reduceNeg, eitherK, hr, c]
    · obtain ⟨o, ⟨K2, i1⟩, i2⟩ := ih (i + 1) 20 (by omega)
      refine ⟨o, step o (max K K2) fun k n hk hn => ?_, by rw [i2]; simp only [faultsR, RT.f, hf]; rfl⟩
      have c := hc k (by omega)
      rw [hf] at c
      rw [← i1 k n (by omega) hn]
      unfold Lshuntref02_Faults_0s
      simp (config := { implicitDefEqProofs := false, maxSteps := 2000000 }) (disch := omega) only [ps, ↓reduceIte, reduceCtorEq, Int.reduceLT, Int.reduceLE, Int.reduceEq, Nat.reduceLT, Nat.reduceLeDiff, Nat.reduceEqDiff, Int.reduceNeg, eitherK, hr, c, h1]
theorem Faults_ev (l : List RT) (hl : l.length ≤ 1000000000000000000) (hg : ∀ r ∈ l, r.good) : Rn (fun k => Fshuntref02_Faults k l) (faultsR 0 l) := by
  obtain ⟨o, ⟨K, h1⟩, h2⟩ := faults_loop l hl hg l.length 0 0 (by omega)
  refine Rn.up (f := fun k => Fshuntref02_Faults k l) (Rn.eq (K + l.length + 1) fun k hk => ?_)
  show bshuntref02_Faults k l = _
  unfold bshuntref02_Faults
  have h1' : Lshuntref02_Faults_0 k k l 0 (0 : Int) = some o := h1 k k (by omega) (by omega)
  rw [h1', Option.bind_some]
  rw [List.drop_zero] at h2
  rw [← h2]
  cases o <;> rfl
theorem faultsR_zero : ∀ (l : List RT) (w : Int), faultsR w l = 0 ↔ (w = 0 ∨ False) ∧ ∀ r ∈ l, r.f = 0 := by
  intro l
  induction l with
  | nil => intro w; simp [faultsR]
  | cons r t ih =>
    intro w
    simp only [faultsR]
    rcases faultR_cases r.1.1 r.1.2 r.2.1 r.2.2 with h | h | h
    · have h' : r.f = 0 := h
      simp [h', ih]
    · have h' : r.f = 10 := h
      simp [h']
    · have h' : r.f = 20 := h
      simp [h', ih]
section
variable {x0 x2 y0 y2 : Bool} {x1 x3 y1 y3 : List Int} {x y : Rat} (hx : Fr x0 x1 x2 x3 x) (hy : Fr y0 y1 y2 y3 y) (l1 : x1.length ≤ 72) (l3 : x3.length ≤ 72) (m1 : y1.length ≤ 72) (m3 : y3.length ≤ 72)
include hx hy l1 l3 m1 m3
end
end Go.Proofs.Ytjgpegpjmkgkkaa.Am

/- Plain reckoning: fractions made, held against one another, and of small numbers. -/
set_option linter.unusedVariables false
set_option linter.unusedSectionVars false
set_option linter.unusedSimpArgs false
set_option maxRecDepth 10000
namespace Go.Proofs.Ytjgpegpjmkgkkaa.Am
open Go

/-- The words of a law's fraction, opened. -/
theorem rt_good {x : RT} (w : Wfd (.pr (.pr .bool (.sl (.int .u32))) (.pr .bool (.sl (.int .u32)))) x) : x.good := by
  obtain ⟨d1, l1⟩ := dg_of w.1.2
  obtain ⟨d3, l3⟩ := dg_of w.2.2
  exact ⟨⟨l1, d1⟩, l3, d3⟩
end Go.Proofs.Ytjgpegpjmkgkkaa.Am

/- Plain reckoning: exact quotients, where the rest is nought. -/
set_option linter.unusedVariables false
set_option linter.unusedSimpArgs false
set_option maxRecDepth 10000
namespace Go.Proofs.Ytjgpegpjmkgkkaa.Am
open Go
theorem nm_zv {s : Bool} {l : List Int} {z : Int} (h : Nm W s l z) : Zv W s l = z := h.z
/-- An exact quotient, where the rest is nought. -/
theorem limbExact_of {a0 b0 : Bool} {a1 b1 : List Int} {x y : Int} (na : Nm W a0 a1 x) (nb : Nm W b0 b1 y) (l1 : a1.length ≤ 72) (l2 : b1.length ≤ 72) (hy : y ≠ 0) (hd : y ∣ x) :
    ∃ s q, Rn (fun k => Flimb_Exact k a0 a1 b0 b1) (s, q, 0) ∧ Nm W s q (x.tdiv y) ∧ q.length ≤ a1.length := by
  have hb1 : b1 ≠ [] := by
    rintro rfl
    have := nb.z
    cases b0 <;> simp [V] at this <;> omega
  obtain ⟨s, q, t, r, h1, h2, h3, h4, h5, h6⟩ := limbExact_ev (by omega) (by omega) na.c.1 nb.c.1 (na.ri l1) (nb.ri l2) hb1
  rw [nm_zv na, nm_zv nb] at h3 h4
  rw [Int.tmod_eq_zero_of_dvd hd] at h4
  have hr : r = [] := by
    refine (h4.c.nil_iff (B := W) (by decide)).2 ?_
    rw [h4.abs (by decide)]; rfl
  unfold exa at h2
  rw [if_pos hr] at h2
  exact ⟨s, q, h2, h3, h5⟩
end Go.Proofs.Ytjgpegpjmkgkkaa.Am

/- Plain reckoning: the least common multiple of denominators. -/
set_option linter.unusedVariables false
set_option linter.unusedSectionVars false
set_option linter.unusedSimpArgs false
set_option maxRecDepth 10000
namespace Go.Proofs.Ytjgpegpjmkgkkaa.Am
open Go

theorem QuoRemj_ev (x0 y0 r0 : Bool) (x1 y1 : List Int) {x y : Int} (nx : Nm W x0 x1 x) (ny : Nm W y0 y1 y) (hx : x1.length ≤ 10000000) (hy : y1.length ≤ 10000000) (hy0 : y ≠ 0) :
    ∃ s q t r, Rn (fun k => Fbig_Int_QuoRem_gcq k x0 x1 y0 y1 r0) (s, q, y0, y1, t, r) ∧ Nm W s q (x.tdiv y) ∧ Nm W t r (x.tmod y) ∧ q.length ≤ x1.length ∧ r.length ≤ x1.length := by
  have hn : y1 ≠ [] := by
    intro e
    rw [e] at ny
    have := ny.z
    cases y0 <;> simp [V] at this <;> omega
  obtain ⟨q, r, h1, h2, h3, h4, h5, h6, h7⟩ := divide_ev x1 y1 nx.c ny.c hn hx hy
  have px := V_nonneg (B := W) (by decide) nx.c.1
  have e1 := tdiv_sg x0 y0 (Y := V W y1) px
  have e2 := tmod_sg x0 y0 (Y := V W y1) px
  rw [nx.z, ny.z] at e1 e2
  refine ⟨sgn (!(x0 == y0)) q, tl q, sgn x0 r, tl r, Rn.up (f := fun k => Fbig_Int_QuoRem_gcq k x0 x1 y0 y1 r0) ?_, ?_, ?_, ?_, ?_⟩
  · exact Rn.bind h1 (Rn.bind (set1_ev x0 r0 r (by omega)) (Rn.bind (set2_ev (!(x0 == y0)) x0 q x1 (by omega)) (Rn.pure _)))
  · rw [e1]; exact sgn_nm h2 h4
  · rw [e2]; exact sgn_nm h3 h5
  · have := tl_len q; omega
  · have := tl_len r; omega
theorem Quoj_ev (x0 y0 : Bool) (x1 y1 : List Int) {x y : Int} (nx : Nm W x0 x1 x) (ny : Nm W y0 y1 y) (hx : x1.length ≤ 10000000) (hy : y1.length ≤ 10000000) (hy0 : y ≠ 0) :
    ∃ s q, Rn (fun k => Fbig_Int_Quo_jod k x0 x1 y0 y1) (s, q, y0, y1) ∧ Nm W s q (x.tdiv y) ∧ q.length ≤ x1.length := by
  obtain ⟨s, q, t, r, h1, h2, h3, h4, h5⟩ := QuoRemj_ev x0 y0 false x1 y1 nx ny hx hy hy0
  exact ⟨s, q, Rn.up (f := fun k => Fbig_Int_Quo_jod k x0 x1 y0 y1) (Rn.bind h1 (Rn.pure _)), h2, h4⟩
theorem lcm_eq (m d : Nat) (hd : 0 < d) : (m : Int) * (d : Int).tdiv (Int.gcd m d : Int) = (Nat.lcm m d : Nat) := by
  rw [Int.gcd_natCast_natCast]
  have h1 : Nat.gcd m d ∣ d := Nat.gcd_dvd_right m d
  have e : ((d : Int).tdiv (Nat.gcd m d : Nat)) = ((d / Nat.gcd m d : Nat) : Int) := by
    rw [Int.tdiv_eq_ediv_of_nonneg (by omega)]; rfl
  rw [e, ← Int.natCast_mul, Nat.lcm, Nat.mul_div_assoc _ h1]
theorem wLimbs_ev (z0 : Bool) (z1 : List Int) : Rn (fun k => Fwide_Limbs_awf k z0 z1) ((z1.length : Int), z0, z1) := by
  have h : Rn (fun k => Fbig_Int_Limbs_awf k z0 z1) ((z1.length : Int), z0, z1) := Rn.up (f := fun k => Fbig_Int_Limbs_awf k z0 z1) (Rn.pure _)
  exact Rn.up (f := fun k => Fwide_Limbs_awf k z0 z1) (Rn.bind h (Rn.pure _))
/-- A denominator, as a number. -/
def RT.d (r : RT) : Nat := (Zv W r.2.1 r.2.2).toNat
theorem RT.pos {r : RT} (hg : r.good) (h : r.f = 0) : 0 < r.d ∧ r.2.2.length ≤ 72 ∧ Nm W r.2.1 r.2.2 (r.d : Int) := by
  obtain ⟨q, h1, h2, h3⟩ := fault_fr hg.1.2 hg.2.2 h
  have e : Zv W r.2.1 r.2.2 = q.den := h1.2.z
  have p := Rat.den_pos' q
  have ed : r.d = q.den := by unfold RT.d; rw [e]; rfl
  rw [ed]
  exact ⟨by omega, h3, h1.2⟩
def lcmF : Nat → List Nat → Option Nat
  | m, [] => some m
  | m, d :: t => if (W.toNat ^ 72) ≤ Nat.lcm m d then none else lcmF (Nat.lcm m d) t
theorem w72 {m : Nat} {l : List Int} {s : Bool} (h : Nm W s l (m : Int)) : l.length ≤ 72 ↔ m < W.toNat ^ 72 := by
  rw [h.c.len_le (by decide), h.abs (by decide)]
  have : W ^ 72 = ((W.toNat ^ 72 : Nat) : Int) := by decide
  rw [this]
  omega
theorem u72 {m : Nat} {l : List Int} {s : Bool} (h : Nm U s l (m : Int)) : l.length ≤ 144 ↔ m < W.toNat ^ 72 := by
  rw [h.c.len_le (by decide), h.abs (by decide)]
  have : U ^ 144 = ((W.toNat ^ 72 : Nat) : Int) := by decide
  rw [this]
  omega
abbrev LcmO := (Int × Bool × Bool × List Int × List Int × Bool × List Int × Bool × List Int × Bool × List Int × Bool × List Int) ⊕ (Bool × Nat × Bool × List Int × List Int)
theorem lcm_loop (l : List RT) (hl : l.length ≤ 1000000000) (hg : ∀ r ∈ l, r.good) (hf : ∀ r ∈ l, r.f = 0) : ∀ (d i : Nat) (M : Nat) (m0 : Bool) (m1 : List Int), i + d = l.length → 0 < M → Nm W m0 m1 (M : Int) → m1.length ≤ 72 →
    ∃ o : LcmO, (∃ K, ∀ k n, K ≤ k → d < n → Lrat_Lcm_0 k n l l.length i false 0 m0 m1 [] = some o) ∧
      (match lcmF M ((l.drop i).map RT.d) with | none => ∃ r, o = .inl (13, false, r) | some X => ∃ s t, o = .inr (false, 0, s, t, []) ∧ Nm W s t (X : Int) ∧ t.length ≤ 72) := by
  intro d
  induction d with
  | zero =>
    intro i M m0 m1 hi hM hn hm
    refine ⟨.inr (false, 0, m0, m1, []), ⟨0, fun k n _ hn => ?_⟩, ?_⟩
    · obtain ⟨n, rfl⟩ : ∃ m, n = m + 1 := ⟨n - 1, by omega⟩
      show Lrat_Lcm_0s k (Lrat_Lcm_0 k n) _ _ _ _ _ _ _ _ = _
      unfold Lrat_Lcm_0s
      simp (config := { implicitDefEqProofs := false, maxSteps := 2000000 }) (disch := omega) only [ps, ↓reduceIte, reduceCtorEq, Int.reduceLT, Int.reduceLE, Int.reduceEq, Nat.reduceLT, Nat.reduceLeDiff, Nat.reduceEqDiff, Int.reduceNeg, eitherK]
    · rw [List.drop_of_length_le (by omega)]
      exact ⟨m0, m1, rfl, hn, hm⟩
  | succ d ih =>
    intro i M m0 m1 hi hM hn hm
    have hil : i < l.length := by omega
    obtain ⟨r, hr⟩ : ∃ r, l[i]? = some r := ⟨l[i], List.getElem?_eq_getElem hil⟩
    have hdrop : l.drop i = r :: l.drop (i + 1) := by
      rw [List.drop_eq_getElem_cons hil]
      rw [List.getElem?_eq_getElem hil] at hr
      cases hr; rfl
    have hmem := List.mem_of_getElem? hr
    obtain ⟨p1, p2, p3⟩ := RT.pos (hg r hmem) (hf r hmem)
    have h1 : ((i : Int) + 1) = ((i + 1 : Nat) : Int) := rfl
    obtain ⟨K1, t1⟩ := Take_nm p3 (by omega)
    obtain ⟨g, ⟨K2, g1⟩, g2, g3⟩ := Gcd_ev m0 r.2.1 m1 r.2.2 hn p3 (by omega) (by omega)
    have hgp : (Int.gcd (M : Int) (r.d : Int) : Int) ≠ 0 := by
      have := Int.gcd_pos_of_ne_zero_right (M : Int) (show (r.d : Int) ≠ 0 by omega)
      omega
    obtain ⟨s, q, ⟨K3, q1⟩, q2, q3⟩ := Quoj_ev r.2.1 false r.2.2 g p3 g2 (by omega) (by omega) hgp
    obtain ⟨u, v, ⟨K4, u1⟩, u2, u3⟩ := Mulj_ev m0 s m1 q hn q2 (by omega) (by omega)
    rw [lcm_eq M r.d p1] at u2
    obtain ⟨K5, w1⟩ := wLimbs_ev u v
    have hw := w72 u2
    rw [hdrop]
    simp only [List.map_cons, lcmF]
    by_cases hbig : W.toNat ^ 72 ≤ Nat.lcm M r.d
    · rw [if_pos hbig]
      refine ⟨.inl (13, false, u, v, [], r.1.1, r.1.2, r.2.1, r.2.2, s, q, false, g), ⟨max K1 (max K2 (max K3 (max K4 K5))), fun k n hk hn' => ?_⟩, ⟨_, rfl⟩⟩
      obtain ⟨n, rfl⟩ : ∃ m, n = m + 1 := ⟨n - 1, by omega⟩
      have c1 := t1 k (by omega)
      have c2 := g1 k (by omega)
      have c3 := q1 k (by omega)
      have c4 := u1 k (by omega)
      have c5 := w1 k (by omega)
      show Lrat_Lcm_0s k (Lrat_Lcm_0 k n) _ _ _ _ _ _ _ _ = _
      unfold Lrat_Lcm_0s
      simp (config := { implicitDefEqProofs := false, maxSteps := 2000000 }) (disch := omega) only [ps, ↓reduceIte, reduceCtorEq, Int.reduceLT, Int.reduceLE, Int.reduceEq, Nat.reduceLT, Nat.reduceLeDiff, Nat.reduceEqDiff, Int.reduceNeg, eitherK, hr, c1, c2, c3, c4, c5]
    · rw [if_neg hbig]
      obtain ⟨o, ⟨K6, i1⟩, i2⟩ := ih (i + 1) (Nat.lcm M r.d) u v (by omega) (Nat.lcm_pos hM p1) u2 (by omega)
      refine ⟨o, ⟨max K6 (max K1 (max K2 (max K3 (max K4 K5)))), fun k n hk hn' => ?_⟩, i2⟩
      obtain ⟨n, rfl⟩ : ∃ m, n = m + 1 := ⟨n - 1, by omega⟩
      rw [← i1 k n (by omega) (by omega)]
      have c1 := t1 k (by omega)
      have c2 := g1 k (by omega)
      have c3 := q1 k (by omega)
      have c4 := u1 k (by omega)
      have c5 := w1 k (by omega)
      show Lrat_Lcm_0s k (Lrat_Lcm_0 k n) _ _ _ _ _ _ _ _ = _
      unfold Lrat_Lcm_0s
      simp (config := { implicitDefEqProofs := false, maxSteps := 2000000 }) (disch := omega) only [ps, ↓reduceIte, reduceCtorEq, Int.reduceLT, Int.reduceLE, Int.reduceEq, Nat.reduceLT, Nat.reduceLeDiff, Nat.reduceEqDiff, Int.reduceNeg, eitherK, hr, c1, c2, c3, c4, c5, h1]
/-- What the layer's least common multiple says. -/
theorem ratLcm_ev (l : List RT) (hl : l.length ≤ 1000000000) (hg : ∀ r ∈ l, r.good) :
    (faultsR 0 l ≠ 0 → Rn (fun k => Frat_Lcm k l) (false, [], faultsR 0 l)) ∧
    (faultsR 0 l = 0 → match lcmF 1 (l.map RT.d) with | none => Rn (fun k => Frat_Lcm k l) (false, [], 13) | some X => ∃ s t, Rn (fun k => Frat_Lcm k l) (s, t, 0) ∧ Nm W s t (X : Int) ∧ t.length ≤ 72) := by
  have ha := all_ev l (by omega) hg
  constructor
  · intro h0
    refine Rn.up (f := fun k => Frat_Lcm k l) ?_
    show Rn (fun k => brat_Lcm k l) _
    unfold brat_Lcm
    refine Rn.bind ha ?_
    refine Rn.t (by simpa using h0) ?_
    exact Rn.pure _
  · intro h0
    have hf := ((faultsR_zero l 0).1 h0).2
    rw [h0] at ha
    obtain ⟨o, o1, o2, o3⟩ := NewInt_ev 1 (by decide)
    have hd1 : decide ((1 : Int) < 0) = false := rfl
    rw [hd1] at o1 o2
    obtain ⟨e, ⟨K, e1⟩, e2⟩ := lcm_loop l hl hg hf l.length 0 1 false o (by omega) (by decide) o2 (by omega)
    have e1' : Rn (fun k => Lrat_Lcm_0 k k l l.length (0 : Int) false 0 false o []) e := Rn.eq (K + l.length + 1) fun k hk => e1 k k (by omega) (by omega)
    rw [List.drop_zero] at e2
    generalize lcmF 1 (l.map RT.d) = X at *
    cases X with
    | none =>
      obtain ⟨r, rfl⟩ := e2
      refine Rn.up (f := fun k => Frat_Lcm k l) ?_
      show Rn (fun k => brat_Lcm k l) _
      unfold brat_Lcm
      refine Rn.bind ha ?_
      (first | (refine Rn.t ?hc ?_; case hc => simp (config := { implicitDefEqProofs := false, maxSteps := 2000000 }) (disch := omega) only [ps, ↓reduceIte, reduceCtorEq, Int.reduceLT, Int.reduceLE, Int.reduceEq, Nat.reduceLT, Nat.reduceLeDiff, Nat.reduceEqDiff, Int.reduceNeg, eitherK]) | (refine Rn.f ?hc ?_; case hc => simp (config := { implicitDefEqProofs := false, maxSteps := 2000000 }) (disch := omega) only [ps, ↓reduceIte, reduceCtorEq, Int.reduceLT, Int.reduceLE, Int.reduceEq, Nat.reduceLT, Nat.reduceLeDiff, Nat.reduceEqDiff, Int.reduceNeg, eitherK]))
      refine Rn.bind o1 (Rn.bind e1' ?_)
      exact Rn.pure _
    | some X =>
      obtain ⟨s, t, rfl, t1, t2⟩ := e2
      refine ⟨s, t, ?_, t1, t2⟩
      refine Rn.up (f := fun k => Frat_Lcm k l) ?_
      show Rn (fun k => brat_Lcm k l) _
      unfold brat_Lcm
      refine Rn.bind ha ?_
      (first | (refine Rn.t ?hc ?_; case hc => simp (config := { implicitDefEqProofs := false, maxSteps := 2000000 }) (disch := omega) only [ps, ↓reduceIte, reduceCtorEq, Int.reduceLT, Int.reduceLE, Int.reduceEq, Nat.reduceLT, Nat.reduceLeDiff, Nat.reduceEqDiff, Int.reduceNeg, eitherK]) | (refine Rn.f ?hc ?_; case hc => simp (config := { implicitDefEqProofs := false, maxSteps := 2000000 }) (disch := omega) only [ps, ↓reduceIte, reduceCtorEq, Int.reduceLT, Int.reduceLE, Int.reduceEq, Nat.reduceLT, Nat.reduceLeDiff, Nat.reduceEqDiff, Int.reduceNeg, eitherK]))
      refine Rn.bind o1 (Rn.bind e1' ?_)
      have gv := Give1_ev t1 (show t.length ≤ 1000000000 by omega)
      refine Rn.bind gv ?_
      simp only [List.take_length]
      (first | (refine Rn.t ?hc ?_; case hc => simp (config := { implicitDefEqProofs := false, maxSteps := 2000000 }) (disch := omega) only [ps, ↓reduceIte, reduceCtorEq, Int.reduceLT, Int.reduceLE, Int.reduceEq, Nat.reduceLT, Nat.reduceLeDiff, Nat.reduceEqDiff, Int.reduceNeg, eitherK]) | (refine Rn.f ?hc ?_; case hc => simp (config := { implicitDefEqProofs := false, maxSteps := 2000000 }) (disch := omega) only [ps, ↓reduceIte, reduceCtorEq, Int.reduceLT, Int.reduceLE, Int.reduceEq, Nat.reduceLT, Nat.reduceLeDiff, Nat.reduceEqDiff, Int.reduceNeg, eitherK]))
      exact Rn.pure _
end Go.Proofs.Ytjgpegpjmkgkkaa.Am

/- Plain reckoning: the reference's least common multiple. -/
set_option linter.unusedVariables false
set_option linter.unusedSectionVars false
set_option linter.unusedSimpArgs false
set_option maxRecDepth 10000
namespace Go.Proofs.Ytjgpegpjmkgkkaa.Am
open Go

theorem Length_ev (a0 : Bool) (a1 : List Int) (hl : a1.length ≤ 1000000000) : Rn (fun k => Fshuntref01_Length k a0 a1) (((a1.length + 1) / 2 : Nat) : Int) := by
  refine Rn.up (f := fun k => Fshuntref01_Length k a0 a1) ?_
  show Rn (fun k => bshuntref01_Length k a0 a1) _
  unfold bshuntref01_Length
  have e : IntKind.wrap .i64 (Int.tdiv (IntKind.wrap .i64 ((a1.length : Int) + 1)) 2) = (((a1.length + 1) / 2 : Nat) : Int) := by
    rw [wrap_i64 (x := (a1.length : Int) + 1) (by omega), tdiv_pos (by omega), wrap_i64 (by omega)]
    omega
  exact Rn.const (by show some (IntKind.wrap .i64 (Int.tdiv (IntKind.wrap .i64 ((a1.length : Int) + 1)) 2)) = _; rw [e])
theorem Multiple_ev (a0 b0 : Bool) (a1 b1 : List Int) {m d : Nat} (na : Nm U a0 a1 (m : Int)) (nb : Nm U b0 b1 (d : Int)) (h0 : 0 < d) (hx : a1.length ≤ 100000) (hy : b1.length ≤ 100000) :
    ∃ s l, Rn (fun k => Fshuntref02_Multiple k a0 a1 b0 b1) (s, l) ∧ Nm U s l (Nat.lcm m d : Nat) ∧ l.length ≤ a1.length + b1.length := by
  obtain ⟨g, g1, g2, g3⟩ := Common_ev a0 b0 a1 b1 na nb (by omega) (by omega)
  have hgp : (Int.gcd (m : Int) (d : Int) : Int) ≠ 0 := by
    have := Int.gcd_pos_of_ne_zero_right (m : Int) (show (d : Int) ≠ 0 by omega)
    omega
  have hgn : g ≠ [] := by
    intro e
    rw [e] at g2
    have := g2.z
    simp only [V, Bool.false_eq_true, if_false] at this
    exact hgp this.symm
  obtain ⟨s, q, t, r, q1, q2, q3, q4, q5⟩ := Divide_ev b0 false b1 g nb g2 (by omega) (by omega) hgn
  obtain ⟨u, v, u1, u2, u3⟩ := Times_ev a0 s a1 q na q2 (by omega) (by omega)
  rw [lcm_eq m d h0] at u2
  exact ⟨u, v, Rn.up (f := fun k => Fshuntref02_Multiple k a0 a1 b0 b1) (Rn.bind g1 (Rn.bind q1 (Rn.bind u1 (Rn.pure _)))), u2, by omega⟩
abbrev LcmR := (Int × Bool × Bool × List Int × List Int) ⊕ (Bool × Nat × Bool × List Int × List Int)
theorem rlcm_loop (l : List RT) (hl : l.length ≤ 1000000000) (hg : ∀ r ∈ l, r.good) (hf : ∀ r ∈ l, r.f = 0) : ∀ (d i : Nat) (M : Nat) (m0 : Bool) (m1 : List Int), i + d = l.length → 0 < M → Nm U m0 m1 (M : Int) → m1.length ≤ 144 →
    ∃ o : LcmR, (∃ K, ∀ k n, K ≤ k → d < n → Lshuntref02_Lcm_0 k n l i false 0 m0 m1 [] = some o) ∧
      (match lcmF M ((l.drop i).map RT.d) with | none => ∃ r, o = .inl (13, false, r) | some X => ∃ s t, o = .inr (false, 0, s, t, []) ∧ Nm U s t (X : Int) ∧ t.length ≤ 144) := by
  intro d
  induction d with
  | zero =>
    intro i M m0 m1 hi hM hn hm
    refine ⟨.inr (false, 0, m0, m1, []), ⟨0, fun k n _ hn => ?_⟩, ?_⟩
    · obtain ⟨n, rfl⟩ : ∃ m, n = m + 1 := ⟨n - 1, by omega⟩
      show Lshuntref02_Lcm_0s k (Lshuntref02_Lcm_0 k n) _ _ _ _ _ _ _ = _
      unfold Lshuntref02_Lcm_0s
      simp (config := { implicitDefEqProofs := false, maxSteps := 2000000 }) (disch := omega) only [ps, ↓reduceIte, reduceCtorEq, Int.reduceLT, Int.reduceLE, Int.reduceEq, Nat.reduceLT, Nat.reduceLeDiff, Nat.reduceEqDiff, Int.reduceNeg, eitherK]
    · rw [List.drop_of_length_le (by omega)]
      exact ⟨m0, m1, rfl, hn, hm⟩
  | succ d ih =>
    intro i M m0 m1 hi hM hn hm
    have hil : i < l.length := by omega
    obtain ⟨r, hr⟩ : ∃ r, l[i]? = some r := ⟨l[i], List.getElem?_eq_getElem hil⟩
    have hdrop : l.drop i = r :: l.drop (i + 1) := by
      rw [List.drop_eq_getElem_cons hil]
      rw [List.getElem?_eq_getElem hil] at hr
      cases hr; rfl
    have hmem := List.mem_of_getElem? hr
    obtain ⟨p1, p2, p3⟩ := RT.pos (hg r hmem) (hf r hmem)
    have h1 : ((i : Int) + 1) = ((i + 1 : Nat) : Int) := rfl
    obtain ⟨b1, ⟨K1, t1⟩, t2, t3⟩ := rTake_ev r.2.1 r.2.2 (by omega) p3
    obtain ⟨u, v, ⟨K2, u1⟩, u2, u3⟩ := Multiple_ev m0 r.2.1 m1 b1 hn t2 p1 (by omega) (by omega)
    obtain ⟨K3, w1⟩ := Length_ev u v (by omega)
    have hw := u72 u2
    rw [hdrop]
    simp only [List.map_cons, lcmF]
    by_cases hbig : W.toNat ^ 72 ≤ Nat.lcm M r.d
    · rw [if_pos hbig]
      refine ⟨.inl (13, false, u, v, []), ⟨max K1 (max K2 K3), fun k n hk hn' => ?_⟩, ⟨_, rfl⟩⟩
      obtain ⟨n, rfl⟩ : ∃ m, n = m + 1 := ⟨n - 1, by omega⟩
      have c1 := t1 k (by omega)
      have c2 := u1 k (by omega)
      have c3 := w1 k (by omega)
      show Lshuntref02_Lcm_0s k (Lshuntref02_Lcm_0 k n) _ _ _ _ _ _ _ = _
      unfold Lshuntref02_Lcm_0s
      simp (config := { implicitDefEqProofs := false, maxSteps := 2000000 }) (disch := omega) only [ps, ↓reduceIte, reduceCtorEq, Int.reduceLT, Int.reduceLE, Int.reduceEq, Nat.reduceLT, Nat.reduceLeDiff, Nat.reduceEqDiff, Int.reduceNeg, eitherK, hr, c1, c2, c3]
    · rw [if_neg hbig]
      obtain ⟨o, ⟨K6, i1⟩, i2⟩ := ih (i + 1) (Nat.lcm M r.d) u v (by omega) (Nat.lcm_pos hM p1) u2 (by omega)
      refine ⟨o, ⟨max K6 (max K1 (max K2 K3)), fun k n hk hn' => ?_⟩, i2⟩
      obtain ⟨n, rfl⟩ : ∃ m, n = m + 1 := ⟨n - 1, by omega⟩
      rw [← i1 k n (by omega) (by omega)]
      have c1 := t1 k (by omega)
      have c2 := u1 k (by omega)
      have c3 := w1 k (by omega)
      show Lshuntref02_Lcm_0s k (Lshuntref02_Lcm_0 k n) _ _ _ _ _ _ _ = _
      unfold Lshuntref02_Lcm_0s
      simp (config := { implicitDefEqProofs := false, maxSteps := 2000000 }) (disch := omega) only [ps, ↓reduceIte, reduceCtorEq, Int.reduceLT, Int.reduceLE, Int.reduceEq, Nat.reduceLT, Nat.reduceLeDiff, Nat.reduceEqDiff, Int.reduceNeg, eitherK, hr, c1, c2, c3, h1]
/-- What the document's least common multiple says. -/
theorem refLcm_ev (l : List RT) (hl : l.length ≤ 1000000000) (hg : ∀ r ∈ l, r.good) :
    (faultsR 0 l ≠ 0 → Rn (fun k => Fshuntref02_Lcm k l) (false, [], faultsR 0 l)) ∧
    (faultsR 0 l = 0 → match lcmF 1 (l.map RT.d) with | none => Rn (fun k => Fshuntref02_Lcm k l) (false, [], 13) | some X => ∃ s t, Rn (fun k => Fshuntref02_Lcm k l) (s, t, 0) ∧ Nm W s t (X : Int)) := by
  have ha := Faults_ev l (by omega) hg
  constructor
  · intro h0
    refine Rn.up (f := fun k => Fshuntref02_Lcm k l) ?_
    show Rn (fun k => bshuntref02_Lcm k l) _
    unfold bshuntref02_Lcm
    refine Rn.bind ha ?_
    refine Rn.t (by simpa using h0) ?_
    exact Rn.pure _
  · intro h0
    have hf := ((faultsR_zero l 0).1 h0).2
    rw [h0] at ha
    obtain ⟨o, o1, o2, o3⟩ := Small_ev 1 (by decide)
    have hd1 : decide ((1 : Int) < 0) = false := rfl
    rw [hd1] at o1 o2
    obtain ⟨e, ⟨K, e1⟩, e2⟩ := rlcm_loop l hl hg hf l.length 0 1 false o (by omega) (by decide) o2 (by omega)
    have e1' : Rn (fun k => Lshuntref02_Lcm_0 k k l (0 : Int) false 0 false o []) e := Rn.eq (K + l.length + 1) fun k hk => e1 k k (by omega) (by omega)
    rw [List.drop_zero] at e2
    generalize lcmF 1 (l.map RT.d) = X at *
    cases X with
    | none =>
      obtain ⟨r, rfl⟩ := e2
      refine Rn.up (f := fun k => Fshuntref02_Lcm k l) ?_
      show Rn (fun k => bshuntref02_Lcm k l) _
      unfold bshuntref02_Lcm
      refine Rn.bind ha ?_
      (first | (refine Rn.t ?hc ?_; case hc => simp (config := { implicitDefEqProofs := false, maxSteps := 2000000 }) (disch := omega) only [ps, ↓reduceIte, reduceCtorEq, Int.reduceLT, Int.reduceLE, Int.reduceEq, Nat.reduceLT, Nat.reduceLeDiff, Nat.reduceEqDiff, Int.reduceNeg, eitherK]) | (refine Rn.f ?hc ?_; case hc => simp (config := { implicitDefEqProofs := false, maxSteps := 2000000 }) (disch := omega) only [ps, ↓reduceIte, reduceCtorEq, Int.reduceLT, Int.reduceLE, Int.reduceEq, Nat.reduceLT, Nat.reduceLeDiff, Nat.reduceEqDiff, Int.reduceNeg, eitherK]))
      refine Rn.bind o1 (Rn.bind e1' ?_)
      exact Rn.pure _
    | some X =>
      obtain ⟨s, t, rfl, t1, t2⟩ := e2
      obtain ⟨m, m1, m2, m3⟩ := rGive_ev s t (by omega) t1
      refine ⟨s, m, ?_, m2⟩
      refine Rn.up (f := fun k => Fshuntref02_Lcm k l) ?_
      show Rn (fun k => bshuntref02_Lcm k l) _
      unfold bshuntref02_Lcm
      refine Rn.bind ha ?_
      (first | (refine Rn.t ?hc ?_; case hc => simp (config := { implicitDefEqProofs := false, maxSteps := 2000000 }) (disch := omega) only [ps, ↓reduceIte, reduceCtorEq, Int.reduceLT, Int.reduceLE, Int.reduceEq, Nat.reduceLT, Nat.reduceLeDiff, Nat.reduceEqDiff, Int.reduceNeg, eitherK]) | (refine Rn.f ?hc ?_; case hc => simp (config := { implicitDefEqProofs := false, maxSteps := 2000000 }) (disch := omega) only [ps, ↓reduceIte, reduceCtorEq, Int.reduceLT, Int.reduceLE, Int.reduceEq, Nat.reduceLT, Nat.reduceLeDiff, Nat.reduceEqDiff, Int.reduceNeg, eitherK]))
      refine Rn.bind o1 (Rn.bind e1' ?_)
      exact Rn.bind m1 (Rn.pure _)
/-- The least common multiple divides what all divide; each divides it. -/
theorem lcmF_spec : ∀ (ds : List Nat) (m X : Nat), lcmF m ds = some X → m ∣ X ∧ (∀ d ∈ ds, d ∣ X) ∧ ∀ Y, m ∣ Y → (∀ d ∈ ds, d ∣ Y) → X ∣ Y := by
  intro ds
  induction ds with
  | nil =>
    intro m X h
    cases h
    exact ⟨Nat.dvd_refl _, fun d hd => (by cases hd), fun Y h _ => h⟩
  | cons d t ih =>
    intro m X h
    simp only [lcmF] at h
    split at h
    · cases h
    · obtain ⟨h1, h2, h3⟩ := ih _ _ h
      refine ⟨Nat.dvd_trans (Nat.dvd_lcm_left m d) h1, fun e he => ?_, fun Y hm hY => h3 Y (Nat.lcm_dvd hm (hY d (by simp))) fun e he => hY e (by simp [he])⟩
      rcases List.mem_cons.1 he with rfl | he
      · exact Nat.dvd_trans (Nat.dvd_lcm_right m e) h1
      · exact h2 e he
theorem lcmF_pos : ∀ (ds : List Nat) (m X : Nat), lcmF m ds = some X → 0 < m → (∀ d ∈ ds, 0 < d) → 0 < X := by
  intro ds
  induction ds with
  | nil => intro m X h hm _; cases h; exact hm
  | cons d t ih =>
    intro m X h hm hd
    simp only [lcmF] at h
    split at h
    · cases h
    · exact ih _ _ h (Nat.lcm_pos hm (hd d (by simp))) fun e he => hd e (by simp [he])
/-- The divisor of all quotients so far. -/
def gcdQ (X : Nat) : Nat → List Nat → Nat
  | g, [] => g
  | g, d :: t => gcdQ X (Nat.gcd g (X / d)) t
theorem gcdQ_dvd (X : Nat) : ∀ (ds : List Nat) (g : Nat), gcdQ X g ds ∣ g ∧ ∀ d ∈ ds, gcdQ X g ds ∣ X / d := by
  intro ds
  induction ds with
  | nil => intro g; exact ⟨Nat.dvd_refl _, fun d hd => (by cases hd)⟩
  | cons d t ih =>
    intro g
    obtain ⟨h1, h2⟩ := ih (Nat.gcd g (X / d))
    refine ⟨Nat.dvd_trans h1 (Nat.gcd_dvd_left _ _), fun e he => ?_⟩
    rcases List.mem_cons.1 he with rfl | he
    · exact Nat.dvd_trans h1 (Nat.gcd_dvd_right _ _)
    · exact h2 e he
theorem gcdQ_one {ds : List Nat} {X : Nat} (h : lcmF 1 ds = some X) (hd : ∀ d ∈ ds, 0 < d) (h0 : ds ≠ []) : gcdQ X 0 ds = 1 := by
  obtain ⟨h1, h2, h3⟩ := lcmF_spec ds 1 X h
  have hX := lcmF_pos ds 1 X h (by decide) hd
  obtain ⟨g1, g2⟩ := gcdQ_dvd X ds 0
  generalize hg : gcdQ X 0 ds = g at *
  obtain ⟨d, hdm⟩ : ∃ d, d ∈ ds := by
    cases ds with
    | nil => exact absurd rfl h0
    | cons d _ => exact ⟨d, by simp⟩
  have hgX : g ∣ X := Nat.dvd_trans (g2 d hdm) (Nat.div_dvd_of_dvd (h2 d hdm))
  have hgpos : 0 < g := Nat.pos_of_dvd_of_pos hgX hX
  have hY : X ∣ X / g := by
    refine h3 _ (Nat.one_dvd _) fun e he => ?_
    obtain ⟨q, hq⟩ := h2 e he
    have he0 := hd e he
    have hqe : X / e = q := by rw [hq, Nat.mul_div_cancel_left _ he0]
    have := g2 e he
    rw [hqe] at this
    obtain ⟨w, hw⟩ := this
    refine ⟨w, ?_⟩
    rw [hq, hw, show e * (g * w) = g * (e * w) by grind, Nat.mul_div_cancel_left _ hgpos]
  have hle := Nat.le_of_dvd (Nat.div_pos (Nat.le_of_dvd hX hgX) hgpos) hY
  have hm := Nat.div_mul_le_self X g
  by_cases h2 : 2 ≤ g
  · have : X * 2 ≤ X / g * g := Nat.mul_le_mul hle h2
    omega
  · omega
end Go.Proofs.Ytjgpegpjmkgkkaa.Am

/- Every least common multiple is the document's; each denominator divides it, and none of its parts does for all: the plain statement. -/
set_option linter.unusedVariables false
set_option linter.unusedSimpArgs false
set_option maxRecDepth 10000
namespace Go.Proofs.Ytjgpegpjmkgkkaa.Am
open Go
/-- The guard: all true, or few fractions. -/
theorem guard_loop (l : List RT) (hl : l.length ≤ 9223372036854775807) : ∀ (d i : Nat), i + d = l.length → i ≤ 13 → ∃ o, (∃ K, ∀ k n, K ≤ k → d < n → Lshuntlaw02_RatLcm_0 k n l l.length i = some o) ∧ (o = .inl true ∨ (o = .inr l ∧ l.length ≤ 13)) := by
  intro d
  induction d with
  | zero =>
    intro i hi h13
    refine ⟨.inr l, ⟨0, fun k n _ hn => ?_⟩, .inr ⟨rfl, by omega⟩⟩
    obtain ⟨n, rfl⟩ : ∃ m, n = m + 1 := ⟨n - 1, by omega⟩
    show Lshuntlaw02_RatLcm_0s k (Lshuntlaw02_RatLcm_0 k n) _ _ _ = _
    unfold Lshuntlaw02_RatLcm_0s
    simp (config := { implicitDefEqProofs := false, maxSteps := 2000000 }) (disch := omega) only [ps, ↓reduceIte, reduceCtorEq, Int.reduceLT, Int.reduceLE, Int.reduceEq, Nat.reduceLT, Nat.reduceLeDiff, Nat.reduceEqDiff, Int.reduceNeg, eitherK]
  | succ d ih =>
    intro i hi h13
    have hil : i < l.length := by omega
    obtain ⟨r, hr⟩ : ∃ r, l[i]? = some r := ⟨l[i], List.getElem?_eq_getElem hil⟩
    have h1 : ((i : Int) + 1) = ((i + 1 : Nat) : Int) := rfl
    by_cases h12 : i ≤ 12
    · by_cases hbig : IntKind.wrap .i64 ((r.1.2.length : Int) + (r.2.2.length : Int)) > 80
      · refine ⟨.inl true, ⟨0, fun k n _ hn => ?_⟩, .inl rfl⟩
        obtain ⟨n, rfl⟩ : ∃ m, n = m + 1 := ⟨n - 1, by omega⟩
        show Lshuntlaw02_RatLcm_0s k (Lshuntlaw02_RatLcm_0 k n) _ _ _ = _
        unfold Lshuntlaw02_RatLcm_0s
        simp (config := { implicitDefEqProofs := false, maxSteps := 2000000 }) (disch := omega) only [ps, ↓reduceIte, reduceCtorEq, Int.reduceLT, Int.reduceLE, Int.reduceEq, Nat.reduceLT, Nat.reduceLeDiff, Nat.reduceEqDiff, Int.reduceNeg, eitherK, hr]
      · obtain ⟨o, ⟨K, i1⟩, i2⟩ := ih (i + 1) (by omega) (by omega)
        refine ⟨o, ⟨K, fun k n hk hn => ?_⟩, i2⟩
        obtain ⟨n, rfl⟩ : ∃ m, n = m + 1 := ⟨n - 1, by omega⟩
        rw [← i1 k n hk (by omega)]
        show Lshuntlaw02_RatLcm_0s k (Lshuntlaw02_RatLcm_0 k n) _ _ _ = _
        unfold Lshuntlaw02_RatLcm_0s
        simp (config := { implicitDefEqProofs := false, maxSteps := 2000000 }) (disch := omega) only [ps, ↓reduceIte, reduceCtorEq, Int.reduceLT, Int.reduceLE, Int.reduceEq, Nat.reduceLT, Nat.reduceLeDiff, Nat.reduceEqDiff, Int.reduceNeg, eitherK, hr, h1]
    · refine ⟨.inl true, ⟨0, fun k n _ hn => ?_⟩, .inl rfl⟩
      obtain ⟨n, rfl⟩ : ∃ m, n = m + 1 := ⟨n - 1, by omega⟩
      show Lshuntlaw02_RatLcm_0s k (Lshuntlaw02_RatLcm_0 k n) _ _ _ = _
      unfold Lshuntlaw02_RatLcm_0s
      simp (config := { implicitDefEqProofs := false, maxSteps := 2000000 }) (disch := omega) only [ps, ↓reduceIte, reduceCtorEq, Int.reduceLT, Int.reduceLE, Int.reduceEq, Nat.reduceLT, Nat.reduceLeDiff, Nat.reduceEqDiff, Int.reduceNeg, eitherK]
/-- The quotients' divisor. -/
theorem quot_loop (l : List RT) (hl : l.length ≤ 1000000000) (hp : ∀ r ∈ l, 0 < r.d ∧ r.2.2.length ≤ 72 ∧ Nm W r.2.1 r.2.2 (r.d : Int)) {X : Nat} {m0 : Bool} {m1 : List Int} (nm : Nm W m0 m1 (X : Int)) (lm : m1.length ≤ 72) (hd : ∀ r ∈ l, r.d ∣ X) :
    ∀ (d i g : Nat) (s : Bool) (t : List Int), i + d = l.length → Nm W s t (g : Int) → t.length ≤ 72 →
    ∃ s' t', (∃ K, ∀ k n, K ≤ k → d < n → Lshuntlaw02_RatLcm_2 k n (.inr (l, l, (l.length : Int), (i : Int), m0, m1, s, t)) = some (.inr (.inr (.inr (l, m0, m1, s', t'))))) ∧ Nm W s' t' (gcdQ X g ((l.drop i).map RT.d) : Nat) ∧ t'.length ≤ 72 := by
  intro d
  induction d with
  | zero =>
    intro i g s t hi hn ht
    refine ⟨s, t, ⟨0, fun k n _ hn => ?_⟩, ?_, ht⟩
    · obtain ⟨n, rfl⟩ : ∃ m, n = m + 1 := ⟨n - 1, by omega⟩
      show Lshuntlaw02_RatLcm_2s k (Lshuntlaw02_RatLcm_2 k n) _ = _
      unfold Lshuntlaw02_RatLcm_2s
      simp (config := { implicitDefEqProofs := false, maxSteps := 2000000 }) (disch := omega) only [ps, ↓reduceIte, reduceCtorEq, Int.reduceLT, Int.reduceLE, Int.reduceEq, Nat.reduceLT, Nat.reduceLeDiff, Nat.reduceEqDiff, Int.reduceNeg, eitherK, eitherK]
    · rw [List.drop_of_length_le (by omega)]; exact hn
  | succ d ih =>
    intro i g s t hi hn ht
    have hil : i < l.length := by omega
    obtain ⟨r, hr⟩ : ∃ r, l[i]? = some r := ⟨l[i], List.getElem?_eq_getElem hil⟩
    have hdrop : l.drop i = r :: l.drop (i + 1) := by
      rw [List.drop_eq_getElem_cons hil]
      rw [List.getElem?_eq_getElem hil] at hr
      cases hr; rfl
    have hmem := List.mem_of_getElem? hr
    obtain ⟨p1, p2, p3⟩ := hp r hmem
    have h1 : ((i : Int) + 1) = ((i + 1 : Nat) : Int) := rfl
    obtain ⟨u, q, ⟨K1, e1⟩, e2, e3⟩ := limbExact_of nm p3 lm p2 (by omega) (Int.natCast_dvd_natCast.2 (hd r hmem))
    have eq : (X : Int).tdiv (r.d : Int) = ((X / r.d : Nat) : Int) := by rw [Int.tdiv_eq_ediv_of_nonneg (by omega)]; rfl
    rw [eq] at e2
    obtain ⟨v, ⟨K2, g1⟩, g2, g3⟩ := limbGcd_ev (show t.length ≤ 9223372036854775807 by omega) (show q.length ≤ 9223372036854775807 by omega) hn.c.1 e2.c.1 (hn.ri ht) (e2.ri (by omega))
    rw [nm_zv hn, nm_zv e2, Int.gcd_natCast_natCast] at g2
    obtain ⟨s', t', ⟨K3, i1⟩, i2, i3⟩ := ih (i + 1) (Nat.gcd g (X / r.d)) false v (by omega) g2 g3
    refine ⟨s', t', ⟨max K1 (max K2 K3), fun k n hk hn' => ?_⟩, ?_, i3⟩
    · obtain ⟨n, rfl⟩ : ∃ m, n = m + 1 := ⟨n - 1, by omega⟩
      rw [← i1 k n (by omega) (by omega)]
      have c1 := e1 k (by omega)
      have c2 := g1 k (by omega)
      show Lshuntlaw02_RatLcm_2s k (Lshuntlaw02_RatLcm_2 k n) _ = _
      unfold Lshuntlaw02_RatLcm_2s
      simp (config := { implicitDefEqProofs := false, maxSteps := 2000000 }) (disch := omega) only [ps, ↓reduceIte, reduceCtorEq, Int.reduceLT, Int.reduceLE, Int.reduceEq, Nat.reduceLT, Nat.reduceLeDiff, Nat.reduceEqDiff, Int.reduceNeg, eitherK, eitherK, hr, c1, c2, h1]
    · rw [hdrop]; exact i2
set_option maxHeartbeats 1000000 in
theorem pure_RatLcm (l : List RT) (w : Wfd (.sl (.pr (.pr .bool (.sl (.int .u32))) (.pr .bool (.sl (.int .u32))))) l) : ∃ k, Fshuntlaw02_RatLcm k l = some true := by
  obtain ⟨hl, hw⟩ := w
  have hg : ∀ r ∈ l, r.good := fun r hr => rt_good (hw r hr)
  refine Rn.get (Rn.up (f := fun k => Fshuntlaw02_RatLcm k l) ?_)
  show Rn (fun k => bshuntlaw02_RatLcm k l) _
  unfold bshuntlaw02_RatLcm
  refine Rn.bind awake_ev ?_
  (first | (refine Rn.t ?hc ?_; case hc => simp (config := { implicitDefEqProofs := false, maxSteps := 2000000 }) (disch := omega) only [ps, ↓reduceIte, reduceCtorEq, Int.reduceLT, Int.reduceLE, Int.reduceEq, Nat.reduceLT, Nat.reduceLeDiff, Nat.reduceEqDiff, Int.reduceNeg, eitherK]) | (refine Rn.f ?hc ?_; case hc => simp (config := { implicitDefEqProofs := false, maxSteps := 2000000 }) (disch := omega) only [ps, ↓reduceIte, reduceCtorEq, Int.reduceLT, Int.reduceLE, Int.reduceEq, Nat.reduceLT, Nat.reduceLeDiff, Nat.reduceEqDiff, Int.reduceNeg, eitherK]))
  obtain ⟨o, ⟨K, o1⟩, o2⟩ := guard_loop l hl l.length 0 (by omega) (by omega)
  have o1' : Rn (fun k => Lshuntlaw02_RatLcm_0 k k l l.length (0 : Int)) o := Rn.eq (K + l.length + 1) fun k hk => o1 k k (by omega) (by omega)
  refine Rn.bind o1' ?_
  rcases o2 with rfl | ⟨rfl, h13⟩
  · exact Rn.pure _
  show Rn (fun k => Option.bind (Frat_Lcm k l) _) _
  obtain ⟨a1, a2⟩ := ratLcm_ev l (by omega) hg
  obtain ⟨b1, b2⟩ := refLcm_ev l (by omega) hg
  by_cases h0 : faultsR 0 l = 0
  case neg =>
    refine Rn.bind (a1 h0) (Rn.bind (b1 h0) (Rn.bind (refSame_ev false false [] [] (by simp)) ?_))
    (first | (refine Rn.t ?hc ?_; case hc => simp (config := { implicitDefEqProofs := false, maxSteps := 2000000 }) (disch := omega) only [ps, ↓reduceIte, reduceCtorEq, Int.reduceLT, Int.reduceLE, Int.reduceEq, Nat.reduceLT, Nat.reduceLeDiff, Nat.reduceEqDiff, Int.reduceNeg, eitherK, decide_true]) | (refine Rn.f ?hc ?_; case hc => simp (config := { implicitDefEqProofs := false, maxSteps := 2000000 }) (disch := omega) only [ps, ↓reduceIte, reduceCtorEq, Int.reduceLT, Int.reduceLE, Int.reduceEq, Nat.reduceLT, Nat.reduceLeDiff, Nat.reduceEqDiff, Int.reduceNeg, eitherK, decide_true]))
    refine Rn.f (by simp) ?_
    refine Rn.t (by simpa using h0) ?_
    exact Rn.pure _
  have a := a2 h0
  have b := b2 h0
  have hf := ((faultsR_zero l 0).1 h0).2
  have hp : ∀ r ∈ l, 0 < r.d ∧ r.2.2.length ≤ 72 ∧ Nm W r.2.1 r.2.2 (r.d : Int) := fun r hr => RT.pos (hg r hr) (hf r hr)
  cases hX : lcmF 1 (l.map RT.d) with
  | none =>
    rw [hX] at a b
    refine Rn.bind a (Rn.bind b (Rn.bind (refSame_ev false false [] [] (by simp)) ?_))
    (first | (refine Rn.t ?hc ?_; case hc => simp (config := { implicitDefEqProofs := false, maxSteps := 2000000 }) (disch := omega) only [ps, ↓reduceIte, reduceCtorEq, Int.reduceLT, Int.reduceLE, Int.reduceEq, Nat.reduceLT, Nat.reduceLeDiff, Nat.reduceEqDiff, Int.reduceNeg, eitherK, decide_true]) | (refine Rn.f ?hc ?_; case hc => simp (config := { implicitDefEqProofs := false, maxSteps := 2000000 }) (disch := omega) only [ps, ↓reduceIte, reduceCtorEq, Int.reduceLT, Int.reduceLE, Int.reduceEq, Nat.reduceLT, Nat.reduceLeDiff, Nat.reduceEqDiff, Int.reduceNeg, eitherK, decide_true]))
    refine Rn.f (by simp) ?_
    refine Rn.t (by simp) ?_
    exact Rn.pure _
  | some X =>
    rw [hX] at a b
    obtain ⟨s, t, t1, t2, t3⟩ := a
    obtain ⟨s', t', u1, u2⟩ := b
    obtain ⟨rfl, rfl⟩ := Nm.ext (B := W) (by decide) u2 t2
    refine Rn.bind t1 (Rn.bind u1 (Rn.bind (refSame_ev s' s' t' t' (by omega)) ?_))
    (first | (refine Rn.t ?hc ?_; case hc => simp (config := { implicitDefEqProofs := false, maxSteps := 2000000 }) (disch := omega) only [ps, ↓reduceIte, reduceCtorEq, Int.reduceLT, Int.reduceLE, Int.reduceEq, Nat.reduceLT, Nat.reduceLeDiff, Nat.reduceEqDiff, Int.reduceNeg, eitherK, decide_true]) | (refine Rn.f ?hc ?_; case hc => simp (config := { implicitDefEqProofs := false, maxSteps := 2000000 }) (disch := omega) only [ps, ↓reduceIte, reduceCtorEq, Int.reduceLT, Int.reduceLE, Int.reduceEq, Nat.reduceLT, Nat.reduceLeDiff, Nat.reduceEqDiff, Int.reduceNeg, eitherK, decide_true]))
    refine Rn.f (by simp) ?_
    refine Rn.f (by simp) ?_
    obtain ⟨h1, h2, h3⟩ := lcmF_spec _ _ _ hX
    have hd : ∀ r ∈ l, r.d ∣ X := fun r hr => h2 _ (List.mem_map_of_mem hr)
    have zz : Nm W false [] ((0 : Nat) : Int) := ⟨Cn.nil, fun h => (by cases h), rfl⟩
    cases l with
    | nil =>
      have q1 : Rn (fun k => Lshuntlaw02_RatLcm_2 k k (.inl ([], [], (([] : List RT).length : Int), (0 : Int), s', t', false, 0, []))) (.inr (.inl ([], s', t', false, 0, []))) := by
        refine Rn.eq 1 fun k hk => ?_
        obtain ⟨n, rfl⟩ : ∃ m, k = m + 1 := ⟨k - 1, by omega⟩
        show Lshuntlaw02_RatLcm_2s (n + 1) (Lshuntlaw02_RatLcm_2 (n + 1) n) _ = _
        unfold Lshuntlaw02_RatLcm_2s
        simp (config := { implicitDefEqProofs := false, maxSteps := 2000000 }) (disch := omega) only [ps, ↓reduceIte, reduceCtorEq, Int.reduceLT, Int.reduceLE, Int.reduceEq, Nat.reduceLT, Nat.reduceLeDiff, Nat.reduceEqDiff, Int.reduceNeg, eitherK, eitherK]
      refine Rn.bind q1 ?_
      exact Rn.pure _
    | cons r l =>
      obtain ⟨p1, p2, p3⟩ := hp r (by simp)
      obtain ⟨u, q, ⟨K1, e1⟩, e2, e3⟩ := limbExact_of t2 p3 t3 p2 (by omega) (Int.natCast_dvd_natCast.2 (hd r (by simp)))
      have eq : (X : Int).tdiv (r.d : Int) = ((X / r.d : Nat) : Int) := by rw [Int.tdiv_eq_ediv_of_nonneg (by omega)]; rfl
      rw [eq] at e2
      obtain ⟨v, ⟨K2, g1⟩, g2, g3⟩ := limbGcd_ev (show ([] : List Int).length ≤ 9223372036854775807 by simp) (show q.length ≤ 9223372036854775807 by omega) zz.c.1 e2.c.1 (zz.ri (by simp)) (e2.ri (by omega))
      rw [nm_zv zz, nm_zv e2, Int.gcd_natCast_natCast] at g2
      obtain ⟨s2, t4, ⟨K3, i1⟩, i2, i3⟩ := quot_loop (r :: l) (by omega) hp t2 t3 hd l.length 1 (Nat.gcd 0 (X / r.d)) false v (by simp; omega) g2 g3
      have hone : gcdQ X (Nat.gcd 0 (X / r.d)) (((r :: l).drop 1).map RT.d) = 1 :=
        gcdQ_one (ds := (r :: l).map RT.d) hX (fun d hd' => by
          obtain ⟨y, hy, rfl⟩ := List.mem_map.1 hd'
          exact (hp y hy).1) (by simp)
      rw [hone] at i2
      have q1 : Rn (fun k => Lshuntlaw02_RatLcm_2 k k (.inl (r :: l, r :: l, ((r :: l).length : Int), (0 : Int), s', t', false, 0, []))) (.inr (.inr (.inr (r :: l, s', t', s2, t4)))) := by
        refine Rn.eq (max K1 (max K2 K3) + l.length + 3) fun k hk => ?_
        obtain ⟨n, rfl⟩ : ∃ m, k = m + 1 := ⟨k - 1, by omega⟩
        rw [← i1 (n + 1) n (by omega) (by omega)]
        have c1 := e1 (n + 1) (by omega)
        have c2 := g1 (n + 1) (by omega)
        have hlen : (r :: l).length = l.length + 1 := rfl
        show Lshuntlaw02_RatLcm_2s (n + 1) (Lshuntlaw02_RatLcm_2 (n + 1) n) _ = _
        unfold Lshuntlaw02_RatLcm_2s
        simp (config := { implicitDefEqProofs := false, maxSteps := 2000000 }) (disch := omega) only [ps, ↓reduceIte, reduceCtorEq, Int.reduceLT, Int.reduceLE, Int.reduceEq, Nat.reduceLT, Nat.reduceLeDiff, Nat.reduceEqDiff, Int.reduceNeg, eitherK, eitherK, hlen, c1, c2, List.getElem?_cons_zero, Int.zero_add, Int.natCast_one]
      refine Rn.bind q1 ?_
      have hlen : (r :: l).length = l.length + 1 := rfl
      simp only [eitherK]
      refine Rn.t (by simp; omega) ?_
      obtain ⟨o, o1, o2, o3⟩ := limbOf_ev 1 (by decide)
      obtain ⟨e4, e5⟩ := Nm.ext (B := W) (by decide) o2 i2
      refine Rn.bind o1 (Rn.bind (refSame_ev s2 (decide ((1 : Int) < 0)) t4 o (by omega)) ?_)
      rw [e4, e5]
      simp only [and_self, decide_true]
      exact Rn.pure _
end Go.Proofs.Ytjgpegpjmkgkkaa.Am

/- The law RatLcm returns true for every input, and its arguments read as they did. -/
namespace Go.Proofs.Ytjgpegpjmkgkkaa.ratLcm
open Go.ChangeShapes Go.WideShapes Go.ChangeAt Go.RowKit
open Go.Proofs.Ytjgpegpjmkgkkaa.Am
set_option linter.unusedVariables false
theorem own : ownKnob Try.prog.godebug = none := by kernel_rfl
theorem laidOut : laidOutB Try.prog = true := by kernel_rfl
set_option maxRecDepth 100000 in
theorem lifted (os : Os) (started : os.Started) (H : Type) (enc : TypeId × Value → H) :
    ReturnsInHanded {} Try.checked os 8 .any (Rows.ratLcmSpec.pre6 enc Try.prog Try.f8 Rows.ratLcmRow.domain false) (Rows.ratLcmSpec.post enc Try.prog Try.f8 false true false false) := by
  refine returnsInHanded_of_change_sized (C := Try.checked) own started (by kernel_rfl) Try.func8
    (ChangeSpec.witness6 (enc := enc) (C := Try.checked) false ⟨#[], #[.slice none 0 0], []⟩ 8 (by kernel_rfl) (by kernel_rfl) (by kernel_rfl) (by kernel_rfl)) ?_
  intro W base args ds gs before hval0 hW hcnd hsz0 _
  have hval : ∀ (j : Nat) t v, Try.f8.params[j]? = some t → args[j]? = some v → Value.okWide Try.prog W .any base t v := hval0
  have hW' := hW
  obtain ⟨p, q, hA0, hV, rfl, hfz, hnd⟩ := hW
  have hA : DataW.TrodAll enc Try.prog W 0 (fun _ => true) true Try.f8.params.toList args.toList ds p := hA0
  rw [Try.params8] at hA hval
  obtain ⟨v0, vs0, d0, ds0, p0, q0, hargs, rfl, rfl, h0, r0⟩ := trodAll_cons hA
  obtain ⟨rfl, rfl, rfl⟩ := trodAll_nil r0
  obtain rfl : args = #[v0] := by cases args; simp_all
  obtain ⟨rfl, rfl⟩ := trodVars_none hV
  have lt0 : ∀ x ∈ p0, x.block < W.heap.size := by obtain ⟨m, hm⟩ := h0; exact DataW.trod_lt m _ _ _ hm
  obtain ⟨y0, rv0, nm0, wf0⟩ := open_cd (d := 9) (c := (.sl (.pr (.pr .bool (.sl (.int .u32))) (.pr .bool (.sl (.int .u32)))))) false (by kernel_rfl) (by kernel_rfl) (by kernel_rfl) (hval 0 51 v0 rfl rfl) h0
  clear hA0 hval0 hsz0
  obtain ⟨k, hk⟩ := pure_RatLcm y0 wf0
  refine (law_inst cfg_ok (okshuntlaw02_RatLcm k) (x := y0) (y := true) hk rfl (args := [argV false (.sl (.pr (.pr .bool (.sl (.int .u32))) (.pr .bool (.sl (.int .u32))))) y0]) rfl (rvs_cons rv0 rvs_nil) (names_cons nm0 rfl)).mono fun e W' ⟨he, bel⟩ => ?_
  subst he
  exact ⟨_, rfl, _, _, _, [], _, [], hW', trodAll_mk1 (shut_bool Try.underlying4 _), (trodAll_cons_mk (Below.trod laidOut (by kernel_rfl) (of_decide_eq_true (by kernel_rfl)) h0 bel lt0) trodAll_mk0), rfl, bel.frame _, fun h => by cases h⟩
theorem over : Rows.ratLcmRow.holds Try.pinned (OpenSpec.ofChange Rows.ratLcmSpec) :=
  OpenClaim.holds_of_wide 8 Try.f8 rfl rfl rfl rfl rfl rfl rfl ⟨rfl, rfl, rfl, rfl, rfl⟩ rfl rfl rfl rfl rfl (by kernel_rfl) Try.func8 (by kernel_rfl)
    (of_decide_eq_true (by kernel_rfl)) (by unfold Func.isWrapper; first | (rw [if_pos (by decide +kernel)]; kernel_rfl) | (rw [if_neg (by decide +kernel)]; exact ⟨rfl, rfl⟩))
    (fun os started H enc _ => lifted os started H enc)
theorem proved : Rows.RatLcmSaid := over
#print axioms proved
end Go.Proofs.Ytjgpegpjmkgkkaa.ratLcm
namespace Go.Proofs.Ytjgpegpjmkgkkaa
/-- The row, under a short name, for the claim. -/
theorem ratLcm_holds : Rows.RatLcmSaid := ratLcm.proved
end Go.Proofs.Ytjgpegpjmkgkkaa
