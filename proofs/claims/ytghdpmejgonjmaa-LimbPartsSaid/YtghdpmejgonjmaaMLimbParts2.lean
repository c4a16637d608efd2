/- The law LimbParts returns true for every input, and its arguments read as they did. -/
import Derived.Test.YtghdpmejgonjmaaMLimbParts1
import Derived.Test.YtghdpmejgonjmaaRows
import Derived.Test.YtghdpmejgonjmaaMA3
import Derived.WalkKit
import Derived.ProofKit
import Derived.OpenShut
import Derived.ShutString
import Derived.ChangeOld
import Derived.Below
import Derived.SizedLaws
import Derived.Carry

set_option linter.unusedVariables false
set_option linter.unusedSimpArgs false
set_option maxRecDepth 10000
namespace Go.Proofs.Ytghdpmejgonjmaa.Am
open Go

theorem alg1 {a b P Y d c X : Int} (h : a + d * P * Y + (0 + 0) * P = b + c * (P * X)) : a + P * (d * Y) = b + P * (c * X) := by
  have h1 : d * P * Y = P * (d * Y) := by rw [Int.mul_comm d P, Int.mul_assoc]
  have h2 : c * (P * X) = P * (c * X) := Int.mul_left_comm ..
  rw [h1, h2, Int.add_zero, Int.zero_mul] at h
  omega
theorem alg2 {a b P Y c X : Int} (h : a + c * (P * X) = b + P * Y + 0 * P) : a + P * (c * X) = b + P * Y := by
  have h2 : c * (P * X) = P * (c * X) := Int.mul_left_comm ..
  rw [h2, Int.zero_mul] at h
  omega
theorem alg3 {a b c P Y q X : Int} (h1 : a + P * ((q + 1) * Y) = b + P * (1 * X)) (h2 : c + P * (1 * X) = a + P * Y) : c + P * (q * Y) = b := by
  rw [Int.add_mul, Int.one_mul, Int.mul_add] at h1
  omega
theorem take_ev (us vs : List Int) (u0 n : Nat) (dd q : Int) (hvs : Dg W vs) (hd : Dg W us) (hnv : n ≤ vs.length) (hl : u0 + n + 1 ≤ us.length) (hlb : us.length ≤ 1000000000) (hdd : 0 ≤ dd ∧ dd < W) (hq0 : 0 ≤ q)
    (hq1 : q * V W (vs.take n) ≤ V W ((us.drop u0).take (n + 1))) (hq2 : V W ((us.drop u0).take (n + 1)) < (q + 1) * V W (vs.take n)) (hdq : dd = q ∨ dd = q + 1) :
    ∃ us', Rn (fun k => Fbig_take_zvq k u0 (n + 1) n dd us vs) (q, us', vs) ∧ us'.length = us.length ∧ Dg W us' ∧ V W us' + W ^ u0 * (q * V W (vs.take n)) = V W us ∧ ∀ p, p < u0 ∨ u0 + (n + 1) ≤ p → us'[p]? = us[p]? := by
  have hY := V_lt (B := W) (by decide) (hvs.take n)
  have hY0 := V_nonneg (B := W) (by decide) (hvs.take n)
  have hYl : (vs.take n).length = n := by rw [List.length_take]; omega
  rw [hYl] at hY
  have hP : (0 : Int) < W ^ u0 := Int.pow_pos (by decide)
  have hWn : (0 : Int) < W ^ n := Int.pow_pos (by decide)
  have hWn1 : W ^ (n + 1) = W ^ n * 4294967296 := Int.pow_succ ..
  have hpw : W ^ (u0 + n + 1) = W ^ u0 * W ^ (n + 1) := by rw [Nat.add_assoc, Int.pow_add]
  have main : ∀ k, n + 2 ≤ k → ∃ us', bbig_take_zvq k u0 (n + 1) n dd us vs = some (q, us', vs) ∧ us'.length = us.length ∧ Dg W us' ∧ V W us' + W ^ u0 * (q * V W (vs.take n)) = V W us ∧ ∀ p, p < u0 ∨ u0 + (n + 1) ≤ p → us'[p]? = us[p]? := by
    intro k hk
    obtain ⟨us1, b1, q1, hb1, l1, d1, e1, o1⟩ := msub_loop k vs hvs u0 n hnv dd hdd (n + 1) 0 k 0 0 us (by omega) (by omega) (by decide) (by decide) (by omega) hl hlb hd
    have q1' : Lbig_take_zvq_0 k k u0 (n + 1) n dd 0 0 ((n + 1 : Nat) : Int) 0 us vs = _ := q1
    have w1 := win_eq (l := us1) (m := us) (u0 := u0) (n := n + 1) (by omega) (by omega) (fun p hp => o1 p (by omega)) (x := dd * V W (vs.take n)) (y := b1 * W ^ (n + 1)) (by
      rw [hpw, Nat.add_zero, List.drop_zero] at e1
      exact alg1 e1)
    have t1 := V_nonneg (B := W) (by decide) ((d1.drop u0).take (n + 1))
    have t2 := V_lt (B := W) (by decide) ((d1.drop u0).take (n + 1))
    have t3 : ((us1.drop u0).take (n + 1)).length = n + 1 := by rw [List.length_take, List.length_drop]; omega
    rw [t3] at t2
    rw [Int.add_mul, Int.one_mul] at hq2
    rcases hdq with rfl | rfl
    · have hb0 : b1 = 0 := by
        rcases (by omega : b1 = 0 ∨ b1 = 1) with h | h
        · exact h
        · subst h
          rw [Int.one_mul] at w1
          omega
      subst hb0
      refine ⟨us1, ?_, l1, d1, ?_, fun p hp => o1 p (by omega)⟩
      · unfold bbig_take_zvq
        unfold W at hdd
        simp (config := { implicitDefEqProofs := false, maxSteps := 2000000 }) (disch := omega) only [ps, ↓reduceIte, reduceCtorEq, Int.reduceLT, Int.reduceLE, Int.reduceEq, Nat.reduceLT, Nat.reduceLeDiff, Nat.reduceEqDiff, Int.reduceNeg, eitherK, q1']
      · rw [hpw, Nat.add_zero, List.drop_zero] at e1
        have := alg1 e1
        rw [Int.zero_mul, Int.mul_zero, Int.add_zero] at this
        exact this
    · have hb0 : b1 = 1 := by
        rcases (by omega : b1 = 0 ∨ b1 = 1) with h | h
        · subst h
          rw [Int.zero_mul, Int.add_mul, Int.one_mul] at w1
          omega
        · exact h
      subst hb0
      obtain ⟨us2, c2, q2, hc2, l2, d2, e2, o2⟩ := back_loop k vs hvs u0 n hnv (q + 1) (n + 1) 0 k 0 us1 (by omega) (by omega) (by decide) (by omega) (by omega) d1
      have q2' : Lbig_take_zvq_2 k k u0 (n + 1) n (q + 1) 0 ((n + 1 : Nat) : Int) 0 us1 vs = _ := q2
      have w2 := win_eq (l := us2) (m := us1) (u0 := u0) (n := n + 1) (by omega) (by omega) (fun p hp => o2 p (by omega)) (x := c2 * W ^ (n + 1)) (y := V W (vs.take n)) (by
        rw [hpw, Nat.add_zero, List.drop_zero] at e2
        exact alg2 e2)
      have s1 := V_nonneg (B := W) (by decide) ((d2.drop u0).take (n + 1))
      have s2 := V_lt (B := W) (by decide) ((d2.drop u0).take (n + 1))
      have s3 : ((us2.drop u0).take (n + 1)).length = n + 1 := by rw [List.length_take, List.length_drop]; omega
      rw [s3] at s2
      rw [Int.add_mul, Int.one_mul, Int.one_mul] at w1
      have hc1 : c2 = 1 := by
        rcases (by omega : c2 = 0 ∨ c2 = 1) with h | h
        · subst h
          rw [Int.zero_mul] at w2
          omega
        · exact h
      subst hc1
      refine ⟨us2, ?_, by omega, d2, ?_, fun p hp => (o2 p (by omega)).trans (o1 p (by omega))⟩
      · unfold bbig_take_zvq
        unfold W at hdd
        have e0 : q + 1 - 1 = q := by omega
        simp (config := { implicitDefEqProofs := false, maxSteps := 2000000 }) (disch := omega) only [ps, ↓reduceIte, reduceCtorEq, Int.reduceLT, Int.reduceLE, Int.reduceEq, Nat.reduceLT, Nat.reduceLeDiff, Nat.reduceEqDiff, Int.reduceNeg, eitherK, q1', q2', e0]
      · rw [hpw, Nat.add_zero, List.drop_zero] at e1 e2
        exact alg3 (alg1 e1) (alg2 e2)
  obtain ⟨us', q1, q2, q3, q4, q5⟩ := main (n + 2) (by omega)
  refine ⟨us', ?_, q2, q3, q4, q5⟩
  refine Rn.up (f := fun k => Fbig_take_zvq k u0 (n + 1) n dd us vs) (Rn.eq (n + 2) fun k hk => ?_)
  obtain ⟨us2, r1, r2, r3, r4, r5⟩ := main k hk
  have : us2 = us' := Dg.ext r3 q3 (by omega) (by omega)
  subst this
  exact r1
end Go.Proofs.Ytghdpmejgonjmaa.Am

/- Plain reckoning: long division, the guess of a digit (the law alone). -/
set_option linter.unusedVariables false
set_option linter.unusedSimpArgs false
set_option maxRecDepth 10000
namespace Go.Proofs.Ytghdpmejgonjmaa.Am
open Go

/-- The guess is too big: one less is still enough. -/
theorem guess_down {T Y P v1 v2 y top u2 t d rest : Int} (hP : 0 < P) (hY : Y = (v1 * W + v2) * P + y) (hT : T = (top * W + u2) * P + t) (hy : 0 ≤ y) (ht : t < P)
    (hd : 0 ≤ d) (htop : d * v1 + rest = top) (h : rest * W + u2 < d * v2) : T < d * Y := by
  have h1 : (rest * W + u2 + 1) * P ≤ d * v2 * P := Int.mul_le_mul_of_nonneg_right (by omega) (by omega)
  have h2 : 0 ≤ d * y := Int.mul_nonneg hd hy
  have e1 : d * Y = d * v1 * W * P + d * v2 * P + d * y := by rw [hY]; grind
  have e2 : T = d * v1 * W * P + (rest * W + u2) * P + t := by rw [hT, ← htop]; grind
  rw [Int.add_mul, Int.one_mul] at h1
  omega
theorem guess_over {T Y P v1 v2 y top u2 t d rest : Int} (hP : 0 < P) (hY : Y = (v1 * W + v2) * P + y) (hT : T = (top * W + u2) * P + t) (hy : 0 ≤ y) (hyP : y < P) (ht : 0 ≤ t) (hv : 0 ≤ v2 ∧ v2 < W) (hu : 0 ≤ u2)
    (hd : 0 ≤ d ∧ d ≤ W) (htop : d * v1 + rest = top) (h : W ≤ rest) : d * Y ≤ T := by
  have e1 : d * Y = d * v1 * W * P + d * (v2 * P + y) := by rw [hY]; grind
  have e2 : T = d * v1 * W * P + rest * (W * P) + u2 * P + t := by rw [hT, ← htop]; grind
  have h0 : (v2 + 1) * P ≤ W * P := Int.mul_le_mul_of_nonneg_right (by omega) (by omega)
  rw [Int.add_mul, Int.one_mul] at h0
  have hWP : 0 ≤ W * P := Int.mul_nonneg (by decide) (by omega)
  have h1 : d * (v2 * P + y) ≤ d * (W * P) := Int.mul_le_mul_of_nonneg_left (by omega) hd.1
  have h2 : d * (W * P) ≤ rest * (W * P) := Int.mul_le_mul_of_nonneg_right (by omega) hWP
  have h3 : 0 ≤ u2 * P := Int.mul_nonneg hu (by omega)
  omega
theorem guess_stop {T Y P v1 v2 y top u2 t d rest : Int} (hP : 0 < P) (hY : Y = (v1 * W + v2) * P + y) (hT : T = (top * W + u2) * P + t) (hy : 0 ≤ y) (hyP : y < P) (ht : 0 ≤ t) (hv : 0 ≤ v2) (hv1 : 1 ≤ v1)
    (hd : 0 ≤ d ∧ d ≤ W) (htop : d * v1 + rest = top) (h : d * v2 ≤ rest * W + u2) : (d - 1) * Y ≤ T := by
  have e1 : d * Y = d * v1 * W * P + d * v2 * P + d * y := by rw [hY]; grind
  have e2 : T = d * v1 * W * P + (rest * W + u2) * P + t := by rw [hT, ← htop]; grind
  have h1 : d * v2 * P ≤ (rest * W + u2) * P := Int.mul_le_mul_of_nonneg_right h (by omega)
  have h2 : d * y ≤ W * y := Int.mul_le_mul_of_nonneg_right hd.2 hy
  have h3 : W * y ≤ W * P := Int.mul_le_mul_of_nonneg_left (by omega) (by decide)
  have h4 : 1 * (W * P) ≤ v1 * (W * P) := Int.mul_le_mul_of_nonneg_right hv1 (Int.mul_nonneg (by decide) (by omega))
  have h5 : 0 ≤ v2 * P := Int.mul_nonneg hv (by omega)
  have e3 : Y = v1 * (W * P) + v2 * P + y := by rw [hY]; grind
  rw [Int.sub_mul, Int.one_mul]
  omega
end Go.Proofs.Ytghdpmejgonjmaa.Am

/- Plain reckoning: long division, the guess of a digit. -/
set_option linter.unusedVariables false
set_option linter.unusedSimpArgs false
set_option maxRecDepth 10000
namespace Go.Proofs.Ytghdpmejgonjmaa.Am
open Go

theorem guess_loop (q u v j n : Nat) (bits : Int) (qs us vs : List Int) {T Y P v1 v2 y top u2 t : Int} (hP : 0 < P) (hY : Y = (v1 * W + v2) * P + y) (hT : T = (top * W + u2) * P + t) (hy : 0 ≤ y ∧ y < P) (ht : 0 ≤ t ∧ t < P)
    (hv1 : 2147483648 ≤ v1 ∧ v1 < W) (hv2 : 0 ≤ v2 ∧ v2 < W) (hu2 : 0 ≤ u2 ∧ u2 < W) (hTY : T < W * Y) (htb : top < v1 * W + W) (hn : 2 ≤ n) (hnv : n ≤ v) (hju : j + n ≤ u) (hub : u ≤ 1000000000)
    (g1 : vs[n - 1]? = some v1) (g2 : vs[n - 2]? = some v2) (g3 : us[j + n - 2]? = some u2) :
    ∀ (r : Nat) (d rest : Int), W ≤ rest + r * 2147483648 → (0 ≤ d ∧ d ≤ W + 1) → (0 ≤ rest ∧ rest < W) → d * v1 + rest = top → T < (d + 1) * Y →
    ∃ d', (∀ k m, r < m → Lbig_long_4 k m q bits (n : Int) u v (j : Int) d rest qs us vs = some (q, bits, (n : Int), u, v, (j : Int), d', qs, us, vs)) ∧ (0 ≤ d' ∧ d' < W) ∧ T < (d' + 1) * Y ∧ (d' - 1) * Y ≤ T := by
  have i1 : ((n : Int) - 1) = ((n - 1 : Nat) : Int) := by omega
  have i2 : ((n : Int) - 2) = ((n - 2 : Nat) : Int) := by omega
  have i3 : ((j : Int) + (n : Int) - 2) = ((j + n - 2 : Nat) : Int) := by omega
  have hWW : W = 4294967296 := rfl
  intro r
  induction r with
  | zero => intro d rest hr hd hrest; omega
  | succ r ih =>
    intro d rest hr hd hrest htop hq
    have down : T < d * Y → (∃ d', (∀ k m, r < m → Lbig_long_4 k m q bits (n : Int) u v (j : Int) (d - 1) (rest + v1) qs us vs = some (q, bits, (n : Int), u, v, (j : Int), d', qs, us, vs)) ∧ ((0 ≤ d' ∧ d' < W) ∧ T < (d' + 1) * Y ∧ (d' - 1) * Y ≤ T)) ∧ rest + v1 < W ∨ W ≤ rest + v1 := by
      intro h
      by_cases hw : W ≤ rest + v1
      · exact .inr hw
      · have hd0 : d ≠ 0 := by
          rintro rfl
          have h1 : 0 ≤ (top * W + u2) * P := Int.mul_nonneg (Int.add_nonneg (Int.mul_nonneg (by omega) (by omega)) hu2.1) (by omega)
          omega
        exact .inl ⟨ih (d - 1) (rest + v1) (by omega) (by omega) (by omega) (by rw [Int.sub_mul]; omega) (by rw [Int.sub_add_cancel]; exact h), by omega⟩
    have hPW : 0 ≤ W * P := Int.mul_nonneg (by decide) (by omega)
    have hY0 : 0 ≤ Y := by
      have : 0 ≤ (v1 * W + v2) * P := Int.mul_nonneg (Int.add_nonneg (Int.mul_nonneg (by omega) (by decide)) hv2.1) (by omega)
      omega
    have out : T < d * Y → W ≤ rest + v1 → d ≤ W + 1 → (0 ≤ d - 1 ∧ d - 1 < W) ∧ T < (d - 1 + 1) * Y ∧ (d - 1 - 1) * Y ≤ T := by
      intro h1 h2 _
      have hd0 : d ≠ 0 := by
        rintro rfl
        have h1 : 0 ≤ (top * W + u2) * P := Int.mul_nonneg (Int.add_nonneg (Int.mul_nonneg (by omega) (by omega)) hu2.1) (by omega)
        omega
      have hdl : d ≠ W + 1 := by
        rintro rfl
        rw [Int.add_mul, Int.one_mul, Int.mul_comm W v1] at htop
        omega
      have := guess_over hP hY hT hy.1 hy.2 ht.1 hv2 hu2.1 (d := d - 1) (rest := rest + v1) (by omega) (by rw [Int.sub_mul]; omega) h2
      refine ⟨by omega, by rw [Int.sub_add_cancel]; exact h1, ?_⟩
      rw [Int.sub_mul (d - 1)]
      omega
    unfold W at hv1 hv2 hu2 hd hrest
    by_cases hdW : d ≤ 4294967295
    · have hm2 := mul_bd (x := d) (y := v2) (by omega) hv2
      have hor := or_add (x := rest) (y := u2) hrest hu2
      by_cases ht2 : rest * 4294967296 + u2 < d * v2
      · have hdn := guess_down hP hY hT hy.1 ht.2 hd.1 htop ht2
        rcases down hdn with ⟨⟨d', q1, q2⟩, hw⟩ | hw
        · refine ⟨d', fun k m hm => ?_, q2⟩
          have hd0 : d ≠ 0 := by
            rintro rfl
            rw [Int.zero_mul] at ht2
            omega
          unfold W at hw
          obtain ⟨m, rfl⟩ : ∃ q, m = q + 1 := ⟨m - 1, by omega⟩
          rw [← q1 k m (by omega)]
          show Lbig_long_4s k (Lbig_long_4 k m) _ _ _ _ _ _ _ _ _ _ _ = _
          unfold Lbig_long_4s
          simp (config := { implicitDefEqProofs := false, maxSteps := 2000000 }) (disch := omega) only [ps, ↓reduceIte, reduceCtorEq, Int.reduceLT, Int.reduceLE, Int.reduceEq, Nat.reduceLT, Nat.reduceLeDiff, Nat.reduceEqDiff, Int.reduceNeg, eitherK, i1, i2, i3, g1, g2, g3, hor]
        · refine ⟨d - 1, fun k m hm => ?_, out hdn hw (by unfold W; omega)⟩
          unfold W at hw
          have hd0 : d ≠ 0 := by
            rintro rfl
            rw [Int.zero_mul] at ht2
            omega
          obtain ⟨m, rfl⟩ : ∃ q, m = q + 1 := ⟨m - 1, by omega⟩
          show Lbig_long_4s k (Lbig_long_4 k m) _ _ _ _ _ _ _ _ _ _ _ = _
          unfold Lbig_long_4s
          simp (config := { implicitDefEqProofs := false, maxSteps := 2000000 }) (disch := omega) only [ps, ↓reduceIte, reduceCtorEq, Int.reduceLT, Int.reduceLE, Int.reduceEq, Nat.reduceLT, Nat.reduceLeDiff, Nat.reduceEqDiff, Int.reduceNeg, eitherK, i1, i2, i3, g1, g2, g3, hor]
      · refine ⟨d, fun k m hm => ?_, ⟨hd.1, by unfold W; omega⟩, hq, guess_stop hP hY hT hy.1 hy.2 ht.1 hv2.1 (by omega) ⟨hd.1, by unfold W; omega⟩ htop (by rw [hWW]; omega)⟩
        obtain ⟨m, rfl⟩ : ∃ q, m = q + 1 := ⟨m - 1, by omega⟩
        show Lbig_long_4s k (Lbig_long_4 k m) _ _ _ _ _ _ _ _ _ _ _ = _
        unfold Lbig_long_4s
        simp (config := { implicitDefEqProofs := false, maxSteps := 2000000 }) (disch := omega) only [ps, ↓reduceIte, reduceCtorEq, Int.reduceLT, Int.reduceLE, Int.reduceEq, Nat.reduceLT, Nat.reduceLeDiff, Nat.reduceEqDiff, Int.reduceNeg, eitherK, i1, i2, i3, g1, g2, g3, hor]
    · have hdn : T < d * Y := by
        have := Int.mul_le_mul_of_nonneg_right (show W ≤ d by unfold W; omega) hY0
        omega
      rcases down hdn with ⟨⟨d', q1, q2⟩, hw⟩ | hw
      · refine ⟨d', fun k m hm => ?_, q2⟩
        unfold W at hw
        obtain ⟨m, rfl⟩ : ∃ q, m = q + 1 := ⟨m - 1, by omega⟩
        rw [← q1 k m (by omega)]
        show Lbig_long_4s k (Lbig_long_4 k m) _ _ _ _ _ _ _ _ _ _ _ = _
        unfold Lbig_long_4s
        simp (config := { implicitDefEqProofs := false, maxSteps := 2000000 }) (disch := omega) only [ps, ↓reduceIte, reduceCtorEq, Int.reduceLT, Int.reduceLE, Int.reduceEq, Nat.reduceLT, Nat.reduceLeDiff, Nat.reduceEqDiff, Int.reduceNeg, eitherK, i1, i2, i3, g1, g2, g3]
      · refine ⟨d - 1, fun k m hm => ?_, out hdn hw (by unfold W; omega)⟩
        unfold W at hw
        obtain ⟨m, rfl⟩ : ∃ q, m = q + 1 := ⟨m - 1, by omega⟩
        show Lbig_long_4s k (Lbig_long_4 k m) _ _ _ _ _ _ _ _ _ _ _ = _
        unfold Lbig_long_4s
        simp (config := { implicitDefEqProofs := false, maxSteps := 2000000 }) (disch := omega) only [ps, ↓reduceIte, reduceCtorEq, Int.reduceLT, Int.reduceLE, Int.reduceEq, Nat.reduceLT, Nat.reduceLeDiff, Nat.reduceEqDiff, Int.reduceNeg, eitherK, i1, i2, i3, g1, g2, g3]
end Go.Proofs.Ytghdpmejgonjmaa.Am

/- Plain reckoning: long division, the main loop. -/
set_option linter.unusedVariables false
set_option linter.unusedSimpArgs false
set_option maxRecDepth 10000
namespace Go.Proofs.Ytghdpmejgonjmaa.Am
open Go

/-- The last two digits of a row of digits, shown. -/
theorem V_top2 {l : List Int} {n : Nat} {a b : Int} (hl : l.length = n + 2) (ha : l[n]? = some a) (hb : l[n + 1]? = some b) : V W l = (b * W + a) * W ^ n + V W (l.take n) := by
  rw [V_split l n (by omega), V_drop ha, V_drop hb, List.drop_of_length_le (by omega)]
  simp only [V]
  grind
/-- A quotient's digit lies between. -/
theorem digit_of {T Y d : Int} (hY : 0 < Y) (h1 : T < (d + 1) * Y) (h2 : (d - 1) * Y ≤ T) : d = T / Y ∨ d = T / Y + 1 := by
  have a := Int.emod_add_mul_ediv T Y
  have b := Int.emod_nonneg T (show Y ≠ 0 by omega)
  have c := Int.emod_lt_of_pos T hY
  have h3 : T / Y < d + 1 := by
    rcases Int.lt_or_le (T / Y) (d + 1) with h | h
    · exact h
    · have := Int.mul_le_mul_of_nonneg_right h (show 0 ≤ Y by omega)
      rw [Int.mul_comm (T / Y)] at this
      omega
  have h4 : d - 1 < T / Y + 1 := by
    rcases Int.lt_or_le (d - 1) (T / Y + 1) with h | h
    · exact h
    · have := Int.mul_le_mul_of_nonneg_right h (show 0 ≤ Y by omega)
      rw [Int.add_mul, Int.mul_comm (T / Y), Int.one_mul] at this
      omega
  omega
end Go.Proofs.Ytghdpmejgonjmaa.Am

/- Plain reckoning: long division, the main loop. -/
set_option linter.unusedVariables false
set_option linter.unusedSimpArgs false
set_option maxRecDepth 10000
namespace Go.Proofs.Ytghdpmejgonjmaa.Am
open Go

/-- The facts of one round: the window's worth, the guess's grounds, and what is left after it. -/
theorem round_law (us vs : List Int) (n i : Nat) (hn : 2 ≤ n) (hnv : n ≤ vs.length) (dv : Dg W vs) (du : Dg W us) (hi : i + n + 1 ≤ us.length) (hlt : V W us < V W (vs.take n) * W ^ (i + 1))
    {v1 v2 u2 x1 x0 : Int} (g1 : vs[n - 1]? = some v1) (g2 : vs[n - 2]? = some v2) (g3 : us[i + n - 2]? = some u2) (g4 : us[i + n - 1]? = some x1) (g5 : us[i + n]? = some x0) :
    ∃ P y t, 0 < P ∧ V W (vs.take n) = (v1 * W + v2) * P + y ∧ V W ((us.drop i).take (n + 1)) = ((x0 * W + x1) * W + u2) * P + t ∧ (0 ≤ y ∧ y < P) ∧ (0 ≤ t ∧ t < P) ∧
      V W ((us.drop i).take (n + 1)) < W * V W (vs.take n) ∧ x0 * W + x1 < v1 * W + W ∧
      (∀ us' q, us'.length = us.length → Dg W us' → V W us' + W ^ i * (q * V W (vs.take n)) = V W us → (∀ p, p < i ∨ i + (n + 1) ≤ p → us'[p]? = us[p]?) → V W ((us.drop i).take (n + 1)) < (q + 1) * V W (vs.take n) → V W us' < V W (vs.take n) * W ^ i) := by
  have hP : (0 : Int) < W ^ (n - 2) := Int.pow_pos (by decide)
  have hPi : (0 : Int) < W ^ i := Int.pow_pos (by decide)
  have lv : (vs.take n).length = n := by rw [List.length_take]; omega
  have lw : ((us.drop i).take (n + 1)).length = n + 1 := by rw [List.length_take, List.length_drop]; omega
  have gv2 : (vs.take n)[n - 2]? = some v2 := by rw [List.getElem?_take_of_lt (by omega)]; exact g2
  have gv1 : (vs.take n)[n - 2 + 1]? = some v1 := by rw [List.getElem?_take_of_lt (by omega), show n - 2 + 1 = n - 1 by omega]; exact g1
  have hY := V_top2 (l := vs.take n) (n := n - 2) (by omega) gv2 gv1
  have gw : ∀ p, p < n + 1 → ((us.drop i).take (n + 1))[p]? = us[i + p]? := fun p hp => by rw [List.getElem?_take_of_lt hp, List.getElem?_drop]
  have w2 : ((us.drop i).take (n + 1))[n - 2]? = some u2 := by rw [gw _ (by omega), show i + (n - 2) = i + n - 2 by omega]; exact g3
  have w1 : ((us.drop i).take (n + 1))[n - 2 + 1]? = some x1 := by rw [gw _ (by omega), show i + (n - 2 + 1) = i + n - 1 by omega]; exact g4
  have w0 : ((us.drop i).take (n + 1))[n - 2 + 1 + 1]? = some x0 := by rw [gw _ (by omega), show i + (n - 2 + 1 + 1) = i + n by omega]; exact g5
  have hT : V W ((us.drop i).take (n + 1)) = ((x0 * W + x1) * W + u2) * W ^ (n - 2) + V W (((us.drop i).take (n + 1)).take (n - 2)) := by
    rw [V_split ((us.drop i).take (n + 1)) (n - 2) (by omega), V_drop w2, V_drop w1, V_drop w0, List.drop_of_length_le (show ((us.drop i).take (n + 1)).length ≤ n - 2 + 1 + 1 + 1 by omega)]
    simp only [V]
    grind
  have dw : Dg W ((us.drop i).take (n + 1)) := (du.drop i).take _
  have y0 := V_nonneg (B := W) (by decide) ((dv.take n).take (n - 2))
  have y1 := V_lt (B := W) (by decide) ((dv.take n).take (n - 2))
  have t0 := V_nonneg (B := W) (by decide) (dw.take (n - 2))
  have t1 := V_lt (B := W) (by decide) (dw.take (n - 2))
  rw [List.length_take, lv, Nat.min_eq_left (by omega)] at y1
  rw [List.length_take, lw, Nat.min_eq_left (by omega)] at t1
  have hY1 := V_lt (B := W) (by decide) (dv.take n)
  rw [lv] at hY1
  have hY0 := V_nonneg (B := W) (by decide) (dv.take n)
  have T0 := V_nonneg (B := W) (by decide) dw
  have hwin := V_win us i (n + 1) (by omega)
  have lo0 := V_nonneg (B := W) (by decide) (du.take i)
  have lo1 := V_lt (B := W) (by decide) (du.take i)
  rw [List.length_take, Nat.min_eq_left (by omega)] at lo1
  have hi0 := V_nonneg (B := W) (by decide) (du.drop (i + (n + 1)))
  have hpi : W ^ (i + 1) = W ^ i * W := Int.pow_succ ..
  have hpn : W ^ (n + 1) = W ^ n * W := Int.pow_succ ..
  have hPn : (0 : Int) < W ^ n := Int.pow_pos (by decide)
  generalize hYY : V W (vs.take n) = Y at *
  generalize hTT : V W ((us.drop i).take (n + 1)) = T at *
  generalize hhi : V W (us.drop (i + (n + 1))) = hi at *
  have hin : T + W ^ (n + 1) * hi < W * Y := by
    have h1 : W ^ i * (T + W ^ (n + 1) * hi) < W ^ i * (W * Y) := by
      rw [hpi, Int.mul_comm Y, Int.mul_assoc] at hlt
      omega
    exact Int.lt_of_mul_lt_mul_left h1 (by omega)
  have hh0 : hi = 0 := by
    rcases (by omega : hi = 0 ∨ 1 ≤ hi) with h | h
    · exact h
    · have h1 : W ^ (n + 1) * 1 ≤ W ^ (n + 1) * hi := Int.mul_le_mul_of_nonneg_left h (by rw [hpn]; exact Int.mul_nonneg (by omega) (by decide))
      have h2 : Y * W < W ^ n * W := Int.mul_lt_mul_of_pos_right hY1 (by decide)
      rw [Int.mul_comm Y] at h2
      omega
  subst hh0
  rw [Int.mul_zero, Int.add_zero] at hin hwin
  refine ⟨W ^ (n - 2), _, _, hP, hY, hT, ⟨y0, y1⟩, ⟨t0, t1⟩, hin, ?_, ?_⟩
  · have b2 := dv.get g2
    have b3 := du.get g3
    have h1 : (v1 * W + v2 + 1) * W ^ (n - 2) = (v1 * W + v2) * W ^ (n - 2) + W ^ (n - 2) := by rw [Int.add_mul, Int.one_mul]
    have h2 : Y ≤ (v1 * W + v2 + 1) * W ^ (n - 2) := by omega
    have h3 : W * Y ≤ W * ((v1 * W + v2 + 1) * W ^ (n - 2)) := Int.mul_le_mul_of_nonneg_left h2 (by decide)
    have h4 : 0 ≤ u2 * W ^ (n - 2) := Int.mul_nonneg b3.1 (by omega)
    have h5 : (W * W ^ (n - 2)) * (x0 * W + x1) < (W * W ^ (n - 2)) * (v1 * W + v2 + 1) := by
      have e1 : ((x0 * W + x1) * W + u2) * W ^ (n - 2) = (W * W ^ (n - 2)) * (x0 * W + x1) + u2 * W ^ (n - 2) := by grind
      have e2 : W * ((v1 * W + v2 + 1) * W ^ (n - 2)) = (W * W ^ (n - 2)) * (v1 * W + v2 + 1) := by grind
      omega
    have := Int.lt_of_mul_lt_mul_left h5 (Int.mul_nonneg (by decide) (by omega))
    omega
  · intro us' q hl' d' e' ho hq
    have hw := win_eq (l := us') (m := us) (u0 := i) (n := n + 1) (by omega) (by omega) ho (x := q * Y) (y := 0) (by rw [Int.mul_zero, Int.add_zero]; exact e')
    rw [hTT, Int.add_zero] at hw
    have hwin' := V_win us' i (n + 1) (by omega)
    obtain ⟨s1, s2⟩ := same_out ho
    rw [s1, s2, hhi, Int.mul_zero, Int.add_zero] at hwin'
    rw [Int.add_mul, Int.one_mul] at hq
    have h1 : W ^ i * (V W ((us'.drop i).take (n + 1)) + 1) ≤ W ^ i * Y := Int.mul_le_mul_of_nonneg_left (by omega) (by omega)
    rw [Int.mul_add, Int.mul_one] at h1
    rw [Int.mul_comm Y]
    omega
end Go.Proofs.Ytghdpmejgonjmaa.Am

/- Plain reckoning: long division, the main loop. -/
set_option linter.unusedVariables false
set_option linter.unusedSimpArgs false
set_option maxRecDepth 10000
namespace Go.Proofs.Ytghdpmejgonjmaa.Am
open Go

theorem main_alg {a b Pj Y d q0 Vq A : Int} (h : a + Pj * (d * Y) = b) (e : b + Y * (Pj * W) * Vq = A) : a + Y * Pj * (d + W * Vq) = A := by
  subst e; rw [← h]; grind
set_option maxHeartbeats 1000000 in
theorem main_loop (vs : List Int) (n : Nat) (bits : Int) (hn : 2 ≤ n) (hvl : n ≤ vs.length) (dv : Dg W vs) {v1 v2 : Int} (g1 : vs[n - 1]? = some v1) (g2 : vs[n - 2]? = some v2) (hv1 : 2147483648 ≤ v1) (q u : Nat) (hub : u ≤ 1000000000) (A : Int) :
    ∀ (e : Nat) (qs us : List Int), e + n ≤ u → us.length = u → qs.length = q → e ≤ q → Dg W us → Dg W qs → V W us < V W (vs.take n) * W ^ e → V W us + V W (vs.take n) * W ^ e * V W (qs.drop e) = A →
    ∃ qs' us', (∃ K, ∀ k m, K ≤ k → e < m → Lbig_long_2 k m q bits (n : Int) u n ((e : Int) - 1) qs us vs = some (q, bits, (n : Int), u, qs', us', vs)) ∧ qs'.length = q ∧ us'.length = u ∧ Dg W qs' ∧ Dg W us' ∧
      V W us' < V W (vs.take n) ∧ V W us' + V W (vs.take n) * V W qs' = A := by
  intro e
  induction e with
  | zero =>
    intro qs us he hul hql heq du dq hlt hA
    refine ⟨qs, us, ⟨0, fun k m hk hm => ?_⟩, hql, hul, dq, du, by simpa using hlt, by simpa using hA⟩
    obtain ⟨m, rfl⟩ : ∃ q, m = q + 1 := ⟨m - 1, by omega⟩
    show Lbig_long_2s k (Lbig_long_2 k m) _ _ _ _ _ _ _ _ _ = _
    unfold Lbig_long_2s
    simp (config := { implicitDefEqProofs := false, maxSteps := 2000000 }) (disch := omega) only [ps, ↓reduceIte, reduceCtorEq, Int.reduceLT, Int.reduceLE, Int.reduceEq, Nat.reduceLT, Nat.reduceLeDiff, Nat.reduceEqDiff, Int.reduceNeg, eitherK, Int.zero_sub, Int.natCast_zero]
  | succ j ih =>
    intro qs us he hul hql heq du dq hlt hA
    obtain ⟨u2, g3⟩ := get_of (show j + n - 2 < us.length by omega)
    obtain ⟨x1, g4⟩ := get_of (show j + n - 1 < us.length by omega)
    obtain ⟨x0, g5⟩ := get_of (show j + n < us.length by omega)
    obtain ⟨P, y, t, hP, hY, hT, hy, ht, hTY, htb, hend⟩ := round_law us vs n j hn hvl dv du (by omega) hlt g1 g2 g3 g4 g5
    have b1 := dv.get g1
    have b2 := dv.get g2
    have b3 := du.get g3
    have b4 := du.get g4
    have b5 := du.get g5
    have hY0 : 0 < V W (vs.take n) := by
      rw [hY]
      have : 0 < (v1 * W + v2) * P := Int.mul_pos (by unfold W; omega) hP
      omega
    have hT0 := V_nonneg (B := W) (by decide) ((du.drop j).take (n + 1))
    obtain ⟨d0, hd0⟩ : ∃ d0, (x0 * W + x1) / v1 = d0 := ⟨_, rfl⟩
    obtain ⟨r0, hr0⟩ : ∃ r0, (x0 * W + x1) % v1 = r0 := ⟨_, rfl⟩
    have hdm := Int.emod_add_mul_ediv (x0 * W + x1) v1
    have hm0 := Int.emod_nonneg (x0 * W + x1) (show v1 ≠ 0 by omega)
    have hm1 := Int.emod_lt_of_pos (x0 * W + x1) (show 0 < v1 by omega)
    rw [hr0, hd0] at hdm
    rw [hr0] at hm0 hm1
    have htop0 : 0 ≤ x0 * W + x1 := by unfold W at *; omega
    have hd00 : 0 ≤ d0 := by rw [← hd0]; exact Int.ediv_nonneg htop0 (by omega)
    have hd01 : d0 ≤ W + 1 := by
      have h1 : d0 < W + 2 := by
        rw [← hd0]
        refine Int.ediv_lt_of_lt_mul (by omega) ?_
        rw [Int.add_mul, Int.mul_comm W v1]
        unfold W at *
        omega
      omega
    have hTd : V W ((us.drop j).take (n + 1)) < (d0 + 1) * V W (vs.take n) := by
      have h1 : (x0 * W + x1 + 1) ≤ (d0 + 1) * v1 := by rw [Int.add_mul, Int.one_mul, Int.mul_comm d0]; omega
      have h2 : (x0 * W + x1 + 1) * (W * P) ≤ (d0 + 1) * v1 * (W * P) := Int.mul_le_mul_of_nonneg_right h1 (Int.mul_nonneg (by decide) (by omega))
      have h3 : (u2 + 1) * P ≤ W * P := Int.mul_le_mul_of_nonneg_right (by omega) (by omega)
      have h4 : 0 ≤ (d0 + 1) * (v2 * P + y) := Int.mul_nonneg (by omega) (Int.add_nonneg (Int.mul_nonneg (by omega) (by omega)) hy.1)
      rw [hY, hT]
      have e1 : (d0 + 1) * ((v1 * W + v2) * P + y) = (d0 + 1) * v1 * (W * P) + (d0 + 1) * (v2 * P + y) := by grind
      have e2 : ((x0 * W + x1) * W + u2) * P + t = (x0 * W + x1 + 1) * (W * P) - W * P + u2 * P + t := by grind
      have e3 : (u2 + 1) * P = u2 * P + P := by grind
      omega
    obtain ⟨d', hg, hd', hq1, hq2⟩ := guess_loop q u n j n bits qs us vs hP hY hT hy ht ⟨hv1, b1.2⟩ b2 b3 hTY htb hn (Nat.le_refl n) (by omega) hub g1 g2 g3 2 d0 r0 (by unfold W; omega) ⟨hd00, hd01⟩ ⟨hm0, by omega⟩ (by rw [Int.mul_comm]; omega) hTd
    have hdig := digit_of hY0 hq1 hq2
    have q0 : 0 ≤ V W ((us.drop j).take (n + 1)) / V W (vs.take n) := Int.ediv_nonneg hT0 (by omega)
    have qm := Int.emod_add_mul_ediv (V W ((us.drop j).take (n + 1))) (V W (vs.take n))
    have qa := Int.emod_nonneg (V W ((us.drop j).take (n + 1))) (show V W (vs.take n) ≠ 0 by omega)
    have qb := Int.emod_lt_of_pos (V W ((us.drop j).take (n + 1))) hY0
    have ql : V W ((us.drop j).take (n + 1)) / V W (vs.take n) < W := Int.ediv_lt_of_lt_mul hY0 hTY
    obtain ⟨dq0, hdq0⟩ : ∃ x, V W ((us.drop j).take (n + 1)) / V W (vs.take n) = x := ⟨_, rfl⟩
    rw [hdq0] at hdig q0 qm ql
    rw [Int.mul_comm] at qm
    have hq4 : V W ((us.drop j).take (n + 1)) < (dq0 + 1) * V W (vs.take n) := by rw [Int.add_mul, Int.one_mul]; omega
    obtain ⟨us', ⟨K, ht'⟩, l', du', e', o'⟩ := take_ev us vs j n d' dq0 dv du hvl (by omega) (by omega) hd' q0 (by omega) hq4 hdig
    have hfin := hend us' dq0 l' du' e' o' hq4
    obtain ⟨xq, gq⟩ := get_of (show j < qs.length by omega)
    have hdrop : (qs.set j dq0).drop j = dq0 :: qs.drop (j + 1) := by
      rw [List.drop_eq_getElem_cons (by simp; omega)]
      simp [List.drop_set_of_lt]
    obtain ⟨qs'', us'', ⟨K2, hr⟩, r1, r2, r3, r4, r5, r6⟩ := ih (qs.set j dq0) us' (by omega) (by omega) (by simpa using hql) (by omega) du' (dq.set j ⟨q0, ql⟩) hfin (by
      rw [hdrop]
      simp only [V]
      rw [show W ^ (j + 1) = W ^ j * W from Int.pow_succ ..] at hA
      exact main_alg (q0 := 0) e' hA)
    refine ⟨qs'', us'', ⟨max K K2 + 3, fun k m hk hm => ?_⟩, r1, r2, r3, r4, r5, r6⟩
    obtain ⟨m, rfl⟩ : ∃ q, m = q + 1 := ⟨m - 1, by omega⟩
    rw [← hr k m (by omega) (by omega)]
    have hg' := hg k k (by omega)
    have ht2 := ht' k (by omega)
    unfold W at b1 b2 b3 b4 b5 hd'
    have hor := or_add (x := x0) (y := x1) b5 b4
    have hjj : ((j + 1 : Nat) : Int) - 1 = (j : Int) := by omega
    have i1 : ((n : Int) - 1) = ((n - 1 : Nat) : Int) := by omega
    have i4 : ((j : Int) + (n : Int)) = ((j + n : Nat) : Int) := by omega
    have i5 : (((j + n : Nat) : Int) - 1) = ((j + n - 1 : Nat) : Int) := by omega
    have i6 : (((j + n : Nat) : Int) + 1) = ((j + n + 1 : Nat) : Int) := by omega
    have i7 : j + n + 1 - j = n + 1 := by omega
    have dd : (x0 * 4294967296 + x1).tdiv v1 = d0 := by rw [tdiv_pos htop0]; exact hd0
    have rr : (x0 * 4294967296 + x1).tmod v1 = r0 := by rw [tmod_pos htop0]; exact hr0
    unfold W at hd01
    show Lbig_long_2s k (Lbig_long_2 k m) _ _ _ _ _ _ _ _ _ = _
    unfold Lbig_long_2s
    simp (config := { implicitDefEqProofs := false, maxSteps := 2000000 }) (disch := omega) only [ps, ↓reduceIte, reduceCtorEq, Int.reduceLT, Int.reduceLE, Int.reduceEq, Nat.reduceLT, Nat.reduceLeDiff, Nat.reduceEqDiff, Int.reduceNeg, eitherK, hjj, i1, i4, i5, i6, i7, g1, g4, g5, hor, dd, rr, hg', ht2, gq]
end Go.Proofs.Ytghdpmejgonjmaa.Am

/- Plain reckoning: long division, the shift's bits and the rest shifted back. -/
set_option linter.unusedVariables false
set_option linter.unusedSimpArgs false
set_option maxRecDepth 10000
namespace Go.Proofs.Ytghdpmejgonjmaa.Am
open Go

theorem bits_loop (a b : List Int) (hb : b.length ≤ 1000000000) {x : Int} (g : b[b.length - 1]? = some x) (hx : 1 ≤ x) :
    ∀ (e s : Nat), s + e = 32 → x * 2 ^ s < 4294967296 → ∃ s' : Nat, (∀ k m, e < m → Lbig_long_0 k m a b (s : Int) = some (a, b, (s' : Int))) ∧ s' ≤ 31 ∧ x * 2 ^ s' < 4294967296 ∧ 2147483648 ≤ x * 2 ^ s' := by
  have hb1 : 0 < b.length := by have := (List.getElem?_eq_some_iff.1 g).1; omega
  intro e
  induction e with
  | zero =>
    intro s hs hlt
    have : s = 32 := by omega
    subst this
    omega
  | succ e ih =>
    intro s hs hlt
    have hp : (0 : Int) < 2 ^ s := Int.pow_pos (by decide)
    have h0 : 0 ≤ x * 2 ^ s := Int.mul_nonneg (by omega) (by omega)
    have hmin : min s 32 = s := by omega
    have i1 : ((b.length : Int) - 1) = ((b.length - 1 : Nat) : Int) := by omega
    have i2 : ((s : Int) + 1) = ((s + 1 : Nat) : Int) := rfl
    by_cases h : x * 2 ^ s < 2147483648
    · obtain ⟨s', q1, q2⟩ := ih (s + 1) (by omega) (by rw [Int.pow_succ, ← Int.mul_assoc]; omega)
      refine ⟨s', fun k m hm => ?_, q2⟩
      obtain ⟨m, rfl⟩ : ∃ q, m = q + 1 := ⟨m - 1, by omega⟩
      rw [← q1 k m (by omega)]
      have hz : (x * 2 ^ s).fdiv 2147483648 = 0 := by rw [fdiv_pos _ (by decide)]; omega
      show Lbig_long_0s k (Lbig_long_0 k m) _ _ _ = _
      unfold Lbig_long_0s
      simp (config := { implicitDefEqProofs := false, maxSteps := 2000000 }) (disch := omega) only [ps, ↓reduceIte, reduceCtorEq, Int.reduceLT, Int.reduceLE, Int.reduceEq, Nat.reduceLT, Nat.reduceLeDiff, Nat.reduceEqDiff, Int.reduceNeg, eitherK, i1, i2, g, hmin, hz]
    · refine ⟨s, fun k m hm => ?_, by omega, hlt, by omega⟩
      obtain ⟨m, rfl⟩ : ∃ q, m = q + 1 := ⟨m - 1, by omega⟩
      have hz : ¬ ((x * 2 ^ s).fdiv 2147483648 = 0) := by rw [fdiv_pos _ (by decide)]; omega
      show Lbig_long_0s k (Lbig_long_0 k m) _ _ _ = _
      unfold Lbig_long_0s
      simp (config := { implicitDefEqProofs := false, maxSteps := 2000000 }) (disch := omega) only [ps, ↓reduceIte, reduceCtorEq, Int.reduceLT, Int.reduceLE, Int.reduceEq, Nat.reduceLT, Nat.reduceLeDiff, Nat.reduceEqDiff, Int.reduceNeg, eitherK, i1, i2, g, hmin, hz]
theorem unshift_alg {S T W' u u1 d m d1 m1 Pj Vr Vu m0 : Int} (hu : u = m + S * d) (hST : S * T = W') (e : S * Vr + m0 = Vu + m * Pj) :
    S * (Vr + Pj * (d + m1 * T)) + m0 = Vu + Pj * u + m1 * (Pj * W') := by
  subst hu; subst hST; grind
theorem unshift_word {s : Nat} (hs : s ≤ 31) {x x1 : Int} (hx : 0 ≤ x ∧ x < W) (hx1 : 0 ≤ x1 ∧ x1 < W) :
    IntKind.u32.wrap (((BitVec.toNat ((BitVec.ofInt 32 (Int.fdiv x ((2 : Int) ^ (min (Int.toNat ((s : Nat) : Int)) 32)))) ||| (BitVec.ofInt 32 (IntKind.u32.wrap (IntKind.u64.wrap ((IntKind.u64.wrap x1) * ((2 : Int) ^ (min (Int.toNat (IntKind.u64.wrap ((32 : Int) - ((s : Nat) : Int)))) 64)))))))) : Nat) : Int)
      = x / 2 ^ s + x1 % 2 ^ s * 2 ^ (32 - s) ∧ 0 ≤ x / 2 ^ s + x1 % 2 ^ s * 2 ^ (32 - s) ∧ x / 2 ^ s + x1 % 2 ^ s * 2 ^ (32 - s) < 4294967296 := by
  unfold W at hx hx1
  have hp : (0 : Int) < 2 ^ s := Int.pow_pos (by decide)
  have hq : (0 : Int) < 2 ^ (32 - s) := Int.pow_pos (by decide)
  have hpq : (2 : Int) ^ s * 2 ^ (32 - s) = 4294967296 := by rw [← Int.pow_add, show s + (32 - s) = 32 by omega]; rfl
  have hq32 : (2 : Int) ^ (32 - s) ≤ 4294967296 := by
    have : (2 : Int) ^ (32 - s) ≤ 2 ^ 32 := by exact_mod_cast Nat.pow_le_pow_right (by decide : 0 < 2) (by omega : 32 - s ≤ 32)
    simpa using this
  have e1 : min (Int.toNat ((s : Nat) : Int)) 32 = s := by omega
  have e2 : IntKind.u64.wrap ((32 : Int) - ((s : Nat) : Int)) = ((32 - s : Nat) : Int) := by rw [wrap_u64_id (by omega)]; omega
  have e3 : min (Int.toNat ((32 - s : Nat) : Int)) 64 = 32 - s := by omega
  rw [e1, e2, e3, wrap_u64_id (x := x1) (by omega), wrap_32_64, fdiv_pos _ (by omega)]
  have hd0 : 0 ≤ x / 2 ^ s := Int.ediv_nonneg hx.1 (by omega)
  have hd1 : x / 2 ^ s < 2 ^ (32 - s) := Int.ediv_lt_of_lt_mul hp (by rw [Int.mul_comm, hpq]; exact hx.2)
  have hm0 := Int.emod_nonneg x1 (show (2 : Int) ^ s ≠ 0 by omega)
  have hm1 := Int.emod_lt_of_pos x1 hp
  have hmod : x1 * 2 ^ (32 - s) % 4294967296 = 2 ^ (32 - s) * (x1 % 2 ^ s) := by
    rw [← hpq, Int.mul_comm x1, Int.mul_comm (2 ^ s), Int.mul_emod_mul_of_pos _ _ hq]
  have hb : 2 ^ (32 - s) * (x1 % 2 ^ s + 1) ≤ 2 ^ (32 - s) * 2 ^ s := Int.mul_le_mul_of_nonneg_left (by omega) (by omega)
  rw [Int.mul_comm (2 ^ (32 - s)) (2 ^ s), hpq, Int.mul_add, Int.mul_one] at hb
  have hb0 : 0 ≤ 2 ^ (32 - s) * (x1 % 2 ^ s) := Int.mul_nonneg (by omega) hm0
  rw [hmod, or32 (32 - s) (by omega) ⟨hd0, hd1⟩ ⟨hb0, by omega⟩ _ rfl, Int.mul_comm (x1 % 2 ^ s), wrap_u32_id (by omega)]
  exact ⟨rfl, by omega, by omega⟩
theorem unshift_loop (q u n s : Nat) (hs : s ≤ 31) (qs us : List Int) (du : Dg W us) (hul : us.length = u) (hnu : n + 1 ≤ u) (hu : u ≤ 1000000000) :
    ∀ (d i : Nat) (rs : List Int), i + d = n → rs.length = n → Dg W rs → 2 ^ s * V W (rs.take i) + us[0]?.getD 0 % 2 ^ s = V W (us.take i) + us[i]?.getD 0 % 2 ^ s * W ^ i →
    ∃ rs', (∀ k m, d < m → Lbig_long_6 k m q n (s : Int) u (n : Int) (i : Int) qs rs us = some (q, n, qs, rs', us)) ∧ rs'.length = n ∧ Dg W rs' ∧ 2 ^ s * V W rs' + us[0]?.getD 0 % 2 ^ s = V W (us.take n) + us[n]?.getD 0 % 2 ^ s * W ^ n := by
  intro d
  induction d with
  | zero =>
    intro i rs hi hl hd e
    have : i = n := by omega
    subst this
    rw [List.take_of_length_le (l := rs) (by omega)] at e
    refine ⟨rs, fun k m hm => ?_, hl, hd, e⟩
    obtain ⟨m, rfl⟩ : ∃ q, m = q + 1 := ⟨m - 1, by omega⟩
    show Lbig_long_6s k (Lbig_long_6 k m) _ _ _ _ _ _ _ _ _ = _
    unfold Lbig_long_6s
    simp (config := { implicitDefEqProofs := false, maxSteps := 2000000 }) (disch := omega) only [ps, ↓reduceIte, reduceCtorEq, Int.reduceLT, Int.reduceLE, Int.reduceEq, Nat.reduceLT, Nat.reduceLeDiff, Nat.reduceEqDiff, Int.reduceNeg, eitherK]
  | succ d ih =>
    intro i rs hi hl hd e
    obtain ⟨x, hx⟩ := get_of (show i < us.length by omega)
    obtain ⟨x1, hx1⟩ := get_of (show i + 1 < us.length by omega)
    obtain ⟨x4, hx4⟩ := get_of (show i < rs.length by omega)
    have b1 := du.get hx
    have b2 := du.get hx1
    obtain ⟨w1, w2, w3⟩ := unshift_word hs b1 b2
    obtain ⟨word, hword⟩ : ∃ w, x / 2 ^ s + x1 % 2 ^ s * 2 ^ (32 - s) = w := ⟨_, rfl⟩
    rw [hword] at w1 w2 w3
    have hpq : (2 : Int) ^ s * 2 ^ (32 - s) = W := by rw [← Int.pow_add, show s + (32 - s) = 32 by omega]; rfl
    obtain ⟨rs', q1, q2, q3, q4⟩ := ih (i + 1) (rs.set i word) (by omega) (by simpa using hl) (hd.set i ⟨w2, w3⟩) (by
      rw [set_take_succ _ _ _ (by omega), V_snoc, List.length_take, Nat.min_eq_left (by omega), V_take_succ hx, hx1, Option.getD_some, show W ^ (i + 1) = W ^ i * W from Int.pow_succ .., ← hword]
      rw [hx, Option.getD_some] at e
      exact unshift_alg (u1 := 0) (d1 := 0) (by rw [Int.emod_add_mul_ediv]) hpq e)
    refine ⟨rs', fun k m hm => ?_, q2, q3, q4⟩
    obtain ⟨m, rfl⟩ : ∃ q, m = q + 1 := ⟨m - 1, by omega⟩
    rw [← q1 k m (by omega)]
    have i2 : ((i : Int) + 1) = ((i + 1 : Nat) : Int) := rfl
    have e1 : min (Int.toNat ((s : Nat) : Int)) 32 = min s 32 := by omega
    have w4 : IntKind.u64.wrap ((32 : Int) - ((s : Nat) : Int)) = ((32 - s : Nat) : Int) := by rw [wrap_u64_id (by omega)]; omega
    have w5 : IntKind.u64.wrap ((32 : Int) - ((s : Nat) : Int)) = (32 : Int) - ((s : Nat) : Int) := wrap_u64_id (by omega)
    unfold W at b1 b2
    rw [e1, w5, wrap_u64_id (x := x1) (by omega)] at w1
    rw [wrap_u32_id (by omega)] at w1
    show Lbig_long_6s k (Lbig_long_6 k m) _ _ _ _ _ _ _ _ _ = _
    unfold Lbig_long_6s
    simp (config := { implicitDefEqProofs := false, maxSteps := 2000000 }) (disch := omega) only [ps, ↓reduceIte, reduceCtorEq, Int.reduceLT, Int.reduceLE, Int.reduceEq, Nat.reduceLT, Nat.reduceLeDiff, Nat.reduceEqDiff, Int.reduceNeg, eitherK, i2, hx, hx1, hx4, w1]
end Go.Proofs.Ytghdpmejgonjmaa.Am

/- Plain reckoning: long division, whole. -/
set_option linter.unusedVariables false
set_option linter.unusedSimpArgs false
set_option maxRecDepth 10000
namespace Go.Proofs.Ytghdpmejgonjmaa.Am
open Go

/-- A number below W^n has noughts from its n-th digit on. -/
theorem high_nought : ∀ {l : List Int} {n : Nat}, Dg W l → V W l < W ^ n → n ≤ l.length → V W (l.take n) = V W l ∧ ∀ p x, n ≤ p → l[p]? = some x → x = 0 := by
  intro l n d h hl
  have e := V_split (B := W) l n hl
  have h1 := V_nonneg (B := W) (by decide) (d.take n)
  have h2 := V_nonneg (B := W) (by decide) (d.drop n)
  have hp : (0 : Int) < W ^ n := Int.pow_pos (by decide)
  have hz : V W (l.drop n) = 0 := by
    rcases (by omega : V W (l.drop n) = 0 ∨ 1 ≤ V W (l.drop n)) with h0 | h0
    · exact h0
    · have := Int.mul_le_mul_of_nonneg_left h0 (Int.le_of_lt hp)
      omega
  rw [hz, Int.mul_zero, Int.add_zero] at e
  refine ⟨e.symm, fun p x hp hx => ?_⟩
  have hx2 : (l.drop n)[p - n]? = some x := by rw [List.getElem?_drop, show n + (p - n) = p by omega]; exact hx
  have key : ∀ (m : List Int), Dg W m → V W m = 0 → ∀ (i : Nat) (x : Int), m[i]? = some x → x = 0 := by
    intro m
    induction m with
    | nil => intro _ _ i x h; simp at h
    | cons y m ih =>
      intro dm hm i x h
      have hh := dm.head
      have ht := V_nonneg (B := W) (by decide) dm.tail
      simp only [V] at hm
      unfold W at *
      cases i with
      | zero => simp at h; omega
      | succ i => exact ih dm.tail (by omega) i x (by simpa using h)
  exact key _ (d.drop n) hz _ _ hx2
theorem top_digit {b : List Int} (cb : Cn W b) (h : 1 ≤ b.length) : ∃ x, b[b.length - 1]? = some x ∧ 1 ≤ x ∧ x < W ∧ V W b = V W (b.take (b.length - 1)) + W ^ (b.length - 1) * x := by
  rcases (Cn.last cb.1).1 cb.2 with e | ⟨m, x, rfl, hx⟩
  · rw [e] at h; simp at h
  · have h1 := cb.1 x (by simp)
    refine ⟨x, by simp, by omega, h1.2, ?_⟩
    simp [V_snoc]
set_option maxHeartbeats 1000000 in
theorem longdiv_ev (a b : List Int) (ca : Cn W a) (cb : Cn W b) (hb : 2 ≤ b.length) (hba : b.length ≤ a.length) (hla : a.length ≤ 10000000) :
    ∃ q r, Rn (fun k => Fbig_long k a b) (q, r) ∧ Dg W q ∧ Dg W r ∧ V W b * V W q + V W r = V W a ∧ V W r < V W b ∧ q.length ≤ a.length ∧ r.length ≤ b.length := by
  obtain ⟨x, gx, hx1, hxW, hVb⟩ := top_digit cb (by omega)
  obtain ⟨s, hs, hs31, hs1, hs2⟩ := bits_loop a b (by omega) gx hx1 32 0 (by omega) (by unfold W at hxW; omega)
  obtain ⟨us, hus, lus, dus, eus⟩ := shift_ev a s hs31 ca.1 (by omega)
  obtain ⟨vs, hvs, lvs, dvs, evs⟩ := shift_ev b s hs31 cb.1 (by omega)
  have hS : (0 : Int) < 2 ^ s := Int.pow_pos (by decide)
  have hWp : (0 : Int) < W ^ (b.length - 1) := Int.pow_pos (by decide)
  have hWn : W ^ b.length = W ^ (b.length - 1) * W := by
    obtain ⟨c, hc⟩ : ∃ c, b.length = c + 1 := ⟨b.length - 1, by omega⟩
    rw [hc]
    exact Int.pow_succ ..
  have lo0 := V_nonneg (B := W) (by decide) (cb.1.take (b.length - 1))
  have lo1 := V_lt (B := W) (by decide) (cb.1.take (b.length - 1))
  rw [List.length_take, Nat.min_eq_left (by omega)] at lo1
  have hvlt : V W vs < W ^ b.length := by
    rw [evs, hWn]
    have h1 : V W b < W ^ (b.length - 1) * (x + 1) := by rw [Int.mul_add, Int.mul_one]; omega
    have h2 : (V W b) * 2 ^ s ≤ (W ^ (b.length - 1) * (x + 1) - 1) * 2 ^ s := Int.mul_le_mul_of_nonneg_right (by omega) (by omega)
    have hm : (x * 2 ^ s + 2 ^ s) ≤ W := by
      have hpq : (2 : Int) ^ s * 2 ^ (32 - s) = W := by rw [← Int.pow_add, show s + (32 - s) = 32 by omega]; rfl
      have h4 : 2 ^ s * x < 2 ^ s * 2 ^ (32 - s) := by rw [hpq, Int.mul_comm]; exact hs1
      have h5 := Int.lt_of_mul_lt_mul_left h4 (by omega)
      have h6 : 2 ^ s * (x + 1) ≤ 2 ^ s * 2 ^ (32 - s) := Int.mul_le_mul_of_nonneg_left (by omega) (by omega)
      rw [hpq, Int.mul_add, Int.mul_one, Int.mul_comm] at h6
      exact h6
    have h3 : W ^ (b.length - 1) * (x * 2 ^ s + 2 ^ s) ≤ W ^ (b.length - 1) * W := Int.mul_le_mul_of_nonneg_left hm (by omega)
    have e1 : (W ^ (b.length - 1) * (x + 1) - 1) * 2 ^ s = W ^ (b.length - 1) * (x * 2 ^ s + 2 ^ s) - 2 ^ s := by grind
    omega
  obtain ⟨hvt, hvz⟩ := high_nought dvs hvlt (by omega)
  obtain ⟨v1, g1⟩ := get_of (show b.length - 1 < vs.length by omega)
  obtain ⟨v2, g2⟩ := get_of (show b.length - 2 < vs.length by omega)
  have bv1 := dvs.get g1
  have hv1 : 2147483648 ≤ v1 := by
    have e1 := V_take_succ (B := W) g1
    rw [show b.length - 1 + 1 = b.length by omega, hvt, evs] at e1
    have t1 := V_lt (B := W) (by decide) (dvs.take (b.length - 1))
    rw [List.length_take, Nat.min_eq_left (by omega)] at t1
    have h1 : (W ^ (b.length - 1) * x) * 2 ^ s ≤ V W b * 2 ^ s := Int.mul_le_mul_of_nonneg_right (by omega) (by omega)
    have h2 : W ^ (b.length - 1) * (x * 2 ^ s) < W ^ (b.length - 1) * (v1 + 1) := by
      rw [Int.mul_add, Int.mul_one, ← Int.mul_assoc]
      omega
    have h3 := Int.lt_of_mul_lt_mul_left h2 (by omega)
    omega
  have hY0 : 0 < V W b := by
    have : W ^ (b.length - 1) * 1 ≤ W ^ (b.length - 1) * x := Int.mul_le_mul_of_nonneg_left hx1 (by omega)
    omega
  have hulen : us.length = a.length + 1 := lus
  obtain ⟨m, hm⟩ : ∃ m, m = a.length + 1 - b.length := ⟨_, rfl⟩
  have hm1 : m + b.length = a.length + 1 := by omega
  have hVbge : W ^ (b.length - 1) ≤ V W b := by
    have : W ^ (b.length - 1) * 1 ≤ W ^ (b.length - 1) * x := Int.mul_le_mul_of_nonneg_left hx1 (by omega)
    omega
  have hult : V W us < V W (vs.take b.length) * W ^ m := by
    rw [hvt, evs, eus]
    have h1 := V_lt (B := W) (by decide) ca.1
    have h2 : W ^ (b.length - 1) * W ^ m = W ^ a.length := by rw [← Int.pow_add, show b.length - 1 + m = a.length by omega]
    have h3 : W ^ (b.length - 1) * W ^ m ≤ V W b * W ^ m := Int.mul_le_mul_of_nonneg_right hVbge (Int.le_of_lt (Int.pow_pos (by decide)))
    have h4 : V W a * 2 ^ s < V W b * W ^ m * 2 ^ s := Int.mul_lt_mul_of_pos_right (by omega) hS
    have e1 : V W b * W ^ m * 2 ^ s = V W b * 2 ^ s * W ^ m := by grind
    omega
  obtain ⟨qs, us', ⟨K, hmain⟩, lq, lu, dq, du, hur, hA⟩ := main_loop vs b.length (s : Int) hb (by omega) dvs g1 g2 hv1 m (a.length + 1) (by omega) (V W a * 2 ^ s) m (List.replicate m 0) us (by omega) lus (by simp) (Nat.le_refl m) dus (Dg.rep _ (by decide)) hult (by
    rw [List.drop_of_length_le (by simp)]; simp [V, eus])
  rw [hvt, evs] at hur hA
  have hlt2 : V W us' < W ^ b.length := by rw [evs] at hvlt; omega
  obtain ⟨hut, huz⟩ := high_nought du hlt2 (by omega)
  obtain ⟨rs, hback, lr, dr, er⟩ := unshift_loop m (a.length + 1) b.length s hs31 qs us' du lu (by omega) (by omega) b.length 0 (List.replicate b.length 0) (by omega) (by simp) (Dg.rep _ (by decide)) (by simp [V])
  obtain ⟨xt, hxt⟩ := get_of (show b.length < us'.length by omega)
  obtain ⟨xl, hxl⟩ := get_of (show 0 < us'.length by omega)
  have hxt0 := huz b.length xt (Nat.le_refl _) hxt
  rw [hxt, Option.getD_some, hxt0, Int.zero_emod, Int.zero_mul, Int.add_zero, hut, hxl, Option.getD_some] at er
  have hdvd : xl % 2 ^ s = 0 := by
    have hpq : (2 : Int) ^ s * 2 ^ (32 - s) = W := by rw [← Int.pow_add, show s + (32 - s) = 32 by omega]; rfl
    have e1 : V W us' = xl + W * V W (us'.drop 1) := by
      have := V_drop (B := W) hxl
      simpa using this
    have e2 : V W us' = 2 ^ s * (V W a - V W b * V W qs) := by
      rw [Int.mul_sub]
      have : V W b * 2 ^ s * V W qs = 2 ^ s * (V W b * V W qs) := by grind
      rw [Int.mul_comm (2 ^ s) (V W a)]
      omega
    have e3 : xl = 2 ^ s * (V W a - V W b * V W qs - 2 ^ (32 - s) * V W (us'.drop 1)) := by
      rw [Int.mul_sub, ← e2, ← Int.mul_assoc, hpq]; omega
    rw [e3]; exact Int.mul_emod_right ..
  rw [hdvd, Int.add_zero] at er
  have hfin : V W b * V W qs + V W rs = V W a := by
    have e1 : 2 ^ s * (V W b * V W qs + V W rs) = 2 ^ s * V W a := by
      rw [Int.mul_add, er, Int.mul_comm (2 ^ s) (V W a), ← hA]
      have : V W b * 2 ^ s * V W qs = 2 ^ s * (V W b * V W qs) := by grind
      omega
    exact Int.eq_of_mul_eq_mul_left (by omega) e1
  have hrb : V W rs < V W b := by
    rw [← er, Int.mul_comm] at hur
    exact Int.lt_of_mul_lt_mul_right hur (by omega)
  refine ⟨qs, rs, ?_, dq, dr, hfin, hrb, by omega, by omega⟩
  obtain ⟨K1, hus⟩ := hus
  obtain ⟨K2, hvs⟩ := hvs
  refine Rn.up (f := fun k => Fbig_long k a b) (Rn.eq (max K (max K1 K2) + a.length + 40) fun k hk => ?_)
  show bbig_long k a b = _
  have c1 : Lbig_long_0 k k a b 0 = _ := hs k k (by omega)
  have c2 := hus k (by omega)
  have c3 := hvs k (by omega)
  have c4 := hmain k k (by omega) (by omega)
  have c5 : Lbig_long_6 k k m b.length (s : Int) (a.length + 1) (b.length : Int) 0 qs _ us' = _ := hback k k (by omega)
  have n1 : (((a.length + 1 : Nat) : Int) - (b.length : Int)) = (m : Int) := by omega
  have n2 : List.take m qs = qs := List.take_of_length_le (by omega)
  have n3 : List.take b.length rs = rs := List.take_of_length_le (by omega)
  unfold bbig_long
  simp (config := { implicitDefEqProofs := false, maxSteps := 2000000 }) (disch := omega) only [ps, ↓reduceIte, reduceCtorEq, Int.reduceLT, Int.reduceLE, Int.reduceEq, Nat.reduceLT, Nat.reduceLeDiff, Nat.reduceEqDiff, Int.reduceNeg, eitherK, c1, c2, c3, c4, c5, n1, n2, n3]
end Go.Proofs.Ytghdpmejgonjmaa.Am

/- Plain reckoning: quotient and rest, exact quotients and the common divisor of the program. -/
set_option linter.unusedVariables false
set_option linter.unusedSimpArgs false
set_option maxRecDepth 10000
namespace Go.Proofs.Ytghdpmejgonjmaa.Am
open Go

theorem div_uniq {X Y Q R : Int} (h : Y * Q + R = X) (h0 : 0 ≤ R) (h1 : R < Y) : Q = X / Y ∧ R = X % Y := by
  subst h
  have hY : Y ≠ 0 := by omega
  constructor
  · rw [Int.add_comm, Int.add_mul_ediv_left _ _ hY, Int.ediv_eq_zero_of_lt h0 h1]; omega
  · rw [Int.add_comm, Int.add_mul_emod_self_left, Int.emod_eq_of_lt h0 h1]
theorem tdiv_sg (sx sy : Bool) {X Y : Int} (hX : 0 ≤ X) : (if sx then -X else X).tdiv (if sy then -Y else Y) = if (!(sx == sy)) then -(X / Y) else X / Y := by
  have h : X.tdiv Y = X / Y := tdiv_pos hX
  cases sx <;> cases sy <;> simp [Int.neg_tdiv, Int.tdiv_neg, h]
theorem tmod_sg (sx sy : Bool) {X Y : Int} (hX : 0 ≤ X) : (if sx then -X else X).tmod (if sy then -Y else Y) = if sx then -(X % Y) else X % Y := by
  have h : X.tmod Y = X % Y := tmod_pos hX
  cases sx <;> cases sy <;> simp [Int.neg_tmod, Int.tmod_neg, h]
theorem divide_ev (a b : List Int) (ca : Cn W a) (cb : Cn W b) (hb : b ≠ []) (hla : a.length ≤ 10000000) (hlb : b.length ≤ 10000000) :
    ∃ q r, Rn (fun k => Fbig_divide k a b) (q, r) ∧ Dg W q ∧ Dg W r ∧ V W q = V W a / V W b ∧ V W r = V W a % V W b ∧ q.length ≤ a.length ∧ r.length ≤ a.length := by
  have hc := cmp_ev a b (by omega) (by omega) ca cb
  have hb1 : 1 ≤ b.length := by
    cases b with
    | nil => exact absurd rfl hb
    | cons _ _ => simp
  have pa := V_nonneg (B := W) (by decide) ca.1
  by_cases hlt : V W a < V W b
  · have := div_uniq (X := V W a) (Y := V W b) (Q := 0) (R := V W a) (by omega) pa hlt
    refine ⟨[], a, Rn.up (f := fun k => Fbig_divide k a b) ?_, Dg.nil, ca.1, this.1, this.2, by simp, by omega⟩
    show Rn (fun k => bbig_divide k a b) _
    unfold bbig_divide
    refine Rn.bind hc ?_
    rw [if_pos hlt]
    (first | (refine Rn.t ?hc ?_; case hc => simp (config := { implicitDefEqProofs := false, maxSteps := 2000000 }) (disch := omega) only [ps, ↓reduceIte, reduceCtorEq, Int.reduceLT, Int.reduceLE, Int.reduceEq, Nat.reduceLT, Nat.reduceLeDiff, Nat.reduceEqDiff, Int.reduceNeg, eitherK]) | (refine Rn.f ?hc ?_; case hc => simp (config := { implicitDefEqProofs := false, maxSteps := 2000000 }) (disch := omega) only [ps, ↓reduceIte, reduceCtorEq, Int.reduceLT, Int.reduceLE, Int.reduceEq, Nat.reduceLT, Nat.reduceLeDiff, Nat.reduceEqDiff, Int.reduceNeg, eitherK]))
    exact Rn.pure _
  · have hge : b.length ≤ a.length := by
      refine Nat.le_of_not_lt fun h => hlt ?_
      exact Cn.len_lt (by decide) ca cb h
    have hcn : ¬ ((if V W a < V W b then -1 else if V W a = V W b then 0 else 1 : Int) < 0) := by
      rw [if_neg hlt]
      by_cases h : V W a = V W b
      · rw [if_pos h]; decide
      · rw [if_neg h]; decide
    obtain ⟨x, gx, hx1, hxW, hVb⟩ := top_digit cb hb1
    by_cases h1 : b.length = 1
    · have gx0 : b[0]? = some x := by rw [h1] at gx; exact gx
      have eb : V W b = x := by rw [hVb, h1]; simp [V]
      obtain ⟨q, r, s1, s2, s3, s4, s5⟩ := short_ev a x (by omega) ca.1 ⟨by omega, hxW⟩
      rw [← eb] at s5
      have := div_uniq (X := V W a) (Y := V W b) (Q := V W q) (R := r) s5.symm s2.1 (by omega)
      refine ⟨q, [r], Rn.up (f := fun k => Fbig_divide k a b) ?_, s4, Dg.cons ⟨s2.1, by omega⟩ Dg.nil, this.1, by simp [V, this.2], by omega, by simp; omega⟩
      show Rn (fun k => bbig_divide k a b) _
      unfold bbig_divide
      refine Rn.bind hc ?_
      (first | (refine Rn.t ?hc ?_; case hc => simp (config := { implicitDefEqProofs := false, maxSteps := 2000000 }) (disch := omega) only [ps, ↓reduceIte, reduceCtorEq, Int.reduceLT, Int.reduceLE, Int.reduceEq, Nat.reduceLT, Nat.reduceLeDiff, Nat.reduceEqDiff, Int.reduceNeg, eitherK, hcn]) | (refine Rn.f ?hc ?_; case hc => simp (config := { implicitDefEqProofs := false, maxSteps := 2000000 }) (disch := omega) only [ps, ↓reduceIte, reduceCtorEq, Int.reduceLT, Int.reduceLE, Int.reduceEq, Nat.reduceLT, Nat.reduceLeDiff, Nat.reduceEqDiff, Int.reduceNeg, eitherK, hcn]))
      (first | (refine Rn.t ?hc ?_; case hc => simp (config := { implicitDefEqProofs := false, maxSteps := 2000000 }) (disch := omega) only [ps, ↓reduceIte, reduceCtorEq, Int.reduceLT, Int.reduceLE, Int.reduceEq, Nat.reduceLT, Nat.reduceLeDiff, Nat.reduceEqDiff, Int.reduceNeg, eitherK, h1, Int.natCast_one]) | (refine Rn.f ?hc ?_; case hc => simp (config := { implicitDefEqProofs := false, maxSteps := 2000000 }) (disch := omega) only [ps, ↓reduceIte, reduceCtorEq, Int.reduceLT, Int.reduceLE, Int.reduceEq, Nat.reduceLT, Nat.reduceLeDiff, Nat.reduceEqDiff, Int.reduceNeg, eitherK, h1, Int.natCast_one]))
      refine Rn.at gx0 ?_
      exact Rn.bind (Rn.eq _ s1) (Rn.pure _)
    · obtain ⟨q, r, s1, s2, s3, s4, s5, s6, s7⟩ := longdiv_ev a b ca cb (by omega) hge hla
      have p := V_nonneg (B := W) (by decide) s3
      have := div_uniq s4 p s5
      refine ⟨q, r, Rn.up (f := fun k => Fbig_divide k a b) ?_, s2, s3, this.1, this.2, by omega, by omega⟩
      show Rn (fun k => bbig_divide k a b) _
      unfold bbig_divide
      refine Rn.bind hc ?_
      (first | (refine Rn.t ?hc ?_; case hc => simp (config := { implicitDefEqProofs := false, maxSteps := 2000000 }) (disch := omega) only [ps, ↓reduceIte, reduceCtorEq, Int.reduceLT, Int.reduceLE, Int.reduceEq, Nat.reduceLT, Nat.reduceLeDiff, Nat.reduceEqDiff, Int.reduceNeg, eitherK, hcn]) | (refine Rn.f ?hc ?_; case hc => simp (config := { implicitDefEqProofs := false, maxSteps := 2000000 }) (disch := omega) only [ps, ↓reduceIte, reduceCtorEq, Int.reduceLT, Int.reduceLE, Int.reduceEq, Nat.reduceLT, Nat.reduceLeDiff, Nat.reduceEqDiff, Int.reduceNeg, eitherK, hcn]))
      (first | (refine Rn.t ?hc ?_; case hc => simp (config := { implicitDefEqProofs := false, maxSteps := 2000000 }) (disch := omega) only [ps, ↓reduceIte, reduceCtorEq, Int.reduceLT, Int.reduceLE, Int.reduceEq, Nat.reduceLT, Nat.reduceLeDiff, Nat.reduceEqDiff, Int.reduceNeg, eitherK]) | (refine Rn.f ?hc ?_; case hc => simp (config := { implicitDefEqProofs := false, maxSteps := 2000000 }) (disch := omega) only [ps, ↓reduceIte, reduceCtorEq, Int.reduceLT, Int.reduceLE, Int.reduceEq, Nat.reduceLT, Nat.reduceLeDiff, Nat.reduceEqDiff, Int.reduceNeg, eitherK]))
      exact Rn.bind s1 (Rn.pure _)
theorem QuoRem_ev (z x0 y0 r0 : Bool) (x1 y1 : List Int) {x y : Int} (nx : Nm W x0 x1 x) (ny : Nm W y0 y1 y) (hx : x1.length ≤ 10000000) (hy : y1.length ≤ 10000000) (hy0 : y1 ≠ []) :
    ∃ s q t r, Rn (fun k => Fbig_Int_QuoRem_gsh k z x0 x1 y0 y1 r0) (s, q, x0, x1, y0, y1, t, r) ∧ Nm W s q (x.tdiv y) ∧ Nm W t r (x.tmod y) ∧ q.length ≤ x1.length ∧ r.length ≤ x1.length := by
  obtain ⟨q, r, h1, h2, h3, h4, h5, h6, h7⟩ := divide_ev x1 y1 nx.c ny.c hy0 hx hy
  have px := V_nonneg (B := W) (by decide) nx.c.1
  have e1 := tdiv_sg x0 y0 (Y := V W y1) px
  have e2 := tmod_sg x0 y0 (Y := V W y1) px
  rw [nx.z, ny.z] at e1 e2
  refine ⟨sgn (!(x0 == y0)) q, tl q, sgn x0 r, tl r, Rn.up (f := fun k => Fbig_Int_QuoRem_gsh k z x0 x1 y0 y1 r0) ?_, ?_, ?_, ?_, ?_⟩
  · show Rn (fun k => bbig_Int_QuoRem_gsh k z x0 x1 y0 y1 r0) _
    unfold bbig_Int_QuoRem_gsh
    exact Rn.bind h1 (Rn.bind (set1_ev x0 r0 r (by omega)) (Rn.bind (set1_ev (!(x0 == y0)) z q (by omega)) (Rn.pure _)))
  · rw [e1]; exact sgn_nm h2 h4
  · rw [e2]; exact sgn_nm h3 h5
  · have := tl_len q; omega
  · have := tl_len r; omega
theorem gcd_loop (m0 m01 : Bool) (m1 m11 : List Int) (M : Nat) (hM : M ≤ 10000000) : ∀ (N : Nat) (a b : List Int), V W b ≤ N → Cn W a → Cn W b → a.length ≤ M → b.length ≤ M →
    ∃ l, (∃ K, ∀ k n, K ≤ k → N < n → Lbig_Gcd_ddu_0 k n a b m0 m1 m01 m11 = some (l, m0, m1, m01, m11)) ∧ Cn W l ∧ V W l = Int.gcd (V W a) (V W b) ∧ l.length ≤ M := by
  intro N
  induction N using Nat.strongRecOn with
  | ind N ih =>
    intro a b hN ca cb ha hb
    have pa := V_nonneg (B := W) (by decide) ca.1
    by_cases h0 : b = []
    · subst h0
      refine ⟨a, ⟨0, fun k n _ hn => ?_⟩, ca, by simp [V]; omega, ha⟩
      obtain ⟨n, rfl⟩ : ∃ m, n = m + 1 := ⟨n - 1, by omega⟩
      show Lbig_Gcd_ddu_0s k (Lbig_Gcd_ddu_0 k n) _ _ _ _ _ _ = _
      unfold Lbig_Gcd_ddu_0s
      simp (config := { implicitDefEqProofs := false, maxSteps := 2000000 }) (disch := omega) only [ps, ↓reduceIte, reduceCtorEq, Int.reduceLT, Int.reduceLE, Int.reduceEq, Nat.reduceLT, Nat.reduceLeDiff, Nat.reduceEqDiff, Int.reduceNeg, eitherK]
    · have pb : 0 < V W b := by
        have p := V_nonneg (B := W) (by decide) cb.1
        have := mt (cb.nil_iff (B := W) (by decide)).2 h0
        omega
      obtain ⟨q, r, ⟨K1, h1⟩, h2, h3, h4, h5, h6, h7⟩ := divide_ev a b ca cb h0 (by omega) (by omega)
      have hr0 := Int.emod_nonneg (V W a) (show V W b ≠ 0 by omega)
      have hr1 := Int.emod_lt_of_pos (V W a) pb
      obtain ⟨R, hR⟩ := Int.eq_ofNat_of_zero_le hr0
      have hcr : Cn W (tl r) := Cn.of h3
      have hvr : V W (tl r) = R := by rw [V_tl, h5, hR]
      obtain ⟨l, ⟨K2, i1⟩, i2, i3, i4⟩ := ih R (by omega) b (tl r) (by omega) cb hcr hb (by have := tl_len r; omega)
      obtain ⟨K3, h8⟩ := trim_ev r (by omega)
      refine ⟨l, ⟨max K1 (max K2 K3), fun k n hk hn => ?_⟩, i2, ?_, i4⟩
      · obtain ⟨n, rfl⟩ : ∃ m, n = m + 1 := ⟨n - 1, by omega⟩
        rw [← i1 k n (by omega) (by omega)]
        have c1 := h1 k (by omega)
        have c2 := h8 k (by omega)
        have lb : 0 < b.length := by
          cases b with
          | nil => exact absurd rfl h0
          | cons _ _ => simp
        show Lbig_Gcd_ddu_0s k (Lbig_Gcd_ddu_0 k n) _ _ _ _ _ _ = _
        unfold Lbig_Gcd_ddu_0s
        simp (config := { implicitDefEqProofs := false, maxSteps := 2000000 }) (disch := omega) only [ps, ↓reduceIte, reduceCtorEq, Int.reduceLT, Int.reduceLE, Int.reduceEq, Nat.reduceLT, Nat.reduceLeDiff, Nat.reduceEqDiff, Int.reduceNeg, eitherK, c1, c2, List.take_length]
      · rw [i3, hvr, ← hR]
        obtain ⟨A, hA⟩ := Int.eq_ofNat_of_zero_le pa
        obtain ⟨B, hB⟩ := Int.eq_ofNat_of_zero_le (Int.le_of_lt pb)
        rw [hA, hB]
        show (((Int.gcd (B : Int) ((A % B : Nat) : Int)) : Nat) : Int) = _
        rw [Int.gcd_natCast_natCast, Int.gcd_natCast_natCast, Nat.gcd_comm, ← Nat.gcd_rec, Nat.gcd_comm]
theorem Gcd_ev (x0 y0 : Bool) (x1 y1 : List Int) {x y : Int} (nx : Nm W x0 x1 x) (ny : Nm W y0 y1 y) (hx : x1.length ≤ 10000000) (hy : y1.length ≤ 10000000) :
    ∃ l, Rn (fun k => Fbig_Gcd_ddu k x0 x1 y0 y1) (x0, x1, y0, y1, false, l) ∧ Nm W false l (Int.gcd x y) ∧ l.length ≤ max x1.length y1.length := by
  obtain ⟨N, hN⟩ := Int.eq_ofNat_of_zero_le (V_nonneg (B := W) (by decide) ny.c.1)
  obtain ⟨l, ⟨K, h1⟩, h2, h3, h4⟩ := gcd_loop x0 y0 x1 y1 (max x1.length y1.length) (by omega) N x1 y1 (by omega) nx.c ny.c (by omega) (by omega)
  have e : (Int.gcd (V W x1) (V W y1) : Int) = Int.gcd x y := by
    have e1 := nx.z
    have e2 := ny.z
    rw [← e1, ← e2]
    cases x0 <;> cases y0 <;> simp
  refine ⟨l, Rn.up (f := fun k => Fbig_Gcd_ddu k x0 x1 y0 y1) ?_, ?_, h4⟩
  · show Rn (fun k => bbig_Gcd_ddu k x0 x1 y0 y1) _
    unfold bbig_Gcd_ddu
    have h5 := set1_ev false false l (by omega)
    rw [h2.2] at h5
    exact Rn.bind (x := (l, x0, x1, y0, y1)) (Rn.eq (K + N + 1) fun k hk => h1 k k (by omega) (by omega)) (Rn.bind h5 (Rn.pure _))
  · rw [← e, ← h3]
    exact ⟨h2, fun h => (by cases h), rfl⟩
section
variable {a0 b0 : Bool} {a1 b1 : List Int} (la : a1.length ≤ 9223372036854775807) (lb : b1.length ≤ 9223372036854775807) (da : Dg W a1) (db : Dg W b1)
include la lb da db
theorem limbQuoRem_no (h : ¬ (Ri a0 a1 ∧ Ri b0 b1)) : Rn (fun k => Flimb_QuoRem k a0 a1 b0 b1) (false, [], false, [], 10) := by
  refine Rn.up (f := fun k => Flimb_QuoRem k a0 a1 b0 b1) ?_
  show Rn (fun k => blimb_QuoRem k a0 a1 b0 b1) _
  unfold blimb_QuoRem
  refine Rn.bind (both_ev a0 b0 a1 b1 la lb da db) ?_
  rw [if_neg h]
  (first | (refine Rn.t ?hc ?_; case hc => simp (config := { implicitDefEqProofs := false, maxSteps := 2000000 }) (disch := omega) only [ps, ↓reduceIte, reduceCtorEq, Int.reduceLT, Int.reduceLE, Int.reduceEq, Nat.reduceLT, Nat.reduceLeDiff, Nat.reduceEqDiff, Int.reduceNeg, eitherK]) | (refine Rn.f ?hc ?_; case hc => simp (config := { implicitDefEqProofs := false, maxSteps := 2000000 }) (disch := omega) only [ps, ↓reduceIte, reduceCtorEq, Int.reduceLT, Int.reduceLE, Int.reduceEq, Nat.reduceLT, Nat.reduceLeDiff, Nat.reduceEqDiff, Int.reduceNeg, eitherK]))
  exact Rn.pure _
theorem limbQuoRem_zero (ha : Ri a0 a1) (hb : Ri b0 b1) (h0 : b1 = []) : Rn (fun k => Flimb_QuoRem k a0 a1 b0 b1) (false, [], false, [], 11) := by
  refine Rn.up (f := fun k => Flimb_QuoRem k a0 a1 b0 b1) ?_
  show Rn (fun k => blimb_QuoRem k a0 a1 b0 b1) _
  unfold blimb_QuoRem
  refine Rn.bind (both_ev a0 b0 a1 b1 la lb da db) ?_
  rw [if_pos ⟨ha, hb⟩]
  (first | (refine Rn.t ?hc ?_; case hc => simp (config := { implicitDefEqProofs := false, maxSteps := 2000000 }) (disch := omega) only [ps, ↓reduceIte, reduceCtorEq, Int.reduceLT, Int.reduceLE, Int.reduceEq, Nat.reduceLT, Nat.reduceLeDiff, Nat.reduceEqDiff, Int.reduceNeg, eitherK]) | (refine Rn.f ?hc ?_; case hc => simp (config := { implicitDefEqProofs := false, maxSteps := 2000000 }) (disch := omega) only [ps, ↓reduceIte, reduceCtorEq, Int.reduceLT, Int.reduceLE, Int.reduceEq, Nat.reduceLT, Nat.reduceLeDiff, Nat.reduceEqDiff, Int.reduceNeg, eitherK]))
  subst h0
  (first | (refine Rn.t ?hc ?_; case hc => simp (config := { implicitDefEqProofs := false, maxSteps := 2000000 }) (disch := omega) only [ps, ↓reduceIte, reduceCtorEq, Int.reduceLT, Int.reduceLE, Int.reduceEq, Nat.reduceLT, Nat.reduceLeDiff, Nat.reduceEqDiff, Int.reduceNeg, eitherK]) | (refine Rn.f ?hc ?_; case hc => simp (config := { implicitDefEqProofs := false, maxSteps := 2000000 }) (disch := omega) only [ps, ↓reduceIte, reduceCtorEq, Int.reduceLT, Int.reduceLE, Int.reduceEq, Nat.reduceLT, Nat.reduceLeDiff, Nat.reduceEqDiff, Int.reduceNeg, eitherK]))
  exact Rn.pure _
theorem limbQuoRem_ev (ha : Ri a0 a1) (hb : Ri b0 b1) (h0 : b1 ≠ []) :
    ∃ s q t r, Rn (fun k => Flimb_QuoRem k a0 a1 b0 b1) (s, q, t, r, 0) ∧ Nm W s q ((Zv W a0 a1).tdiv (Zv W b0 b1)) ∧ Nm W t r ((Zv W a0 a1).tmod (Zv W b0 b1)) ∧ q.length ≤ a1.length ∧ r.length ≤ a1.length := by
  have k1 := ha.1
  have k2 := hb.1
  obtain ⟨s, q, t, r, h1, h2, h3, h4, h5⟩ := QuoRem_ev false a0 b0 false a1 b1 (ha.nm da) (hb.nm db) (by omega) (by omega) h0
  refine ⟨s, q, t, r, Rn.up (f := fun k => Flimb_QuoRem k a0 a1 b0 b1) ?_, h2, h3, h4, h5⟩
  show Rn (fun k => blimb_QuoRem k a0 a1 b0 b1) _
  unfold blimb_QuoRem
  refine Rn.bind (both_ev a0 b0 a1 b1 la lb da db) ?_
  rw [if_pos ⟨ha, hb⟩]
  have lb0 : 0 < b1.length := by
    cases b1 with
    | nil => exact absurd rfl h0
    | cons _ _ => simp
  (first | (refine Rn.t ?hc ?_; case hc => simp (config := { implicitDefEqProofs := false, maxSteps := 2000000 }) (disch := omega) only [ps, ↓reduceIte, reduceCtorEq, Int.reduceLT, Int.reduceLE, Int.reduceEq, Nat.reduceLT, Nat.reduceLeDiff, Nat.reduceEqDiff, Int.reduceNeg, eitherK]) | (refine Rn.f ?hc ?_; case hc => simp (config := { implicitDefEqProofs := false, maxSteps := 2000000 }) (disch := omega) only [ps, ↓reduceIte, reduceCtorEq, Int.reduceLT, Int.reduceLE, Int.reduceEq, Nat.reduceLT, Nat.reduceLeDiff, Nat.reduceEqDiff, Int.reduceNeg, eitherK]))
  (first | (refine Rn.t ?hc ?_; case hc => simp (config := { implicitDefEqProofs := false, maxSteps := 2000000 }) (disch := omega) only [ps, ↓reduceIte, reduceCtorEq, Int.reduceLT, Int.reduceLE, Int.reduceEq, Nat.reduceLT, Nat.reduceLeDiff, Nat.reduceEqDiff, Int.reduceNeg, eitherK]) | (refine Rn.f ?hc ?_; case hc => simp (config := { implicitDefEqProofs := false, maxSteps := 2000000 }) (disch := omega) only [ps, ↓reduceIte, reduceCtorEq, Int.reduceLT, Int.reduceLE, Int.reduceEq, Nat.reduceLT, Nat.reduceLeDiff, Nat.reduceEqDiff, Int.reduceNeg, eitherK]))
  refine Rn.bind (Take_ri ha) (Rn.bind (Take_ri hb) (Rn.bind h1 (Rn.bind (Give1_ev h2 (show q.length ≤ 1000000000 by omega)) (Rn.bind (Give1_ev h3 (show r.length ≤ 1000000000 by omega)) ?_))))
  simp only [List.take_length]
  (first | (refine Rn.t ?hc ?_; case hc => simp (config := { implicitDefEqProofs := false, maxSteps := 2000000 }) (disch := omega) only [ps, ↓reduceIte, reduceCtorEq, Int.reduceLT, Int.reduceLE, Int.reduceEq, Nat.reduceLT, Nat.reduceLeDiff, Nat.reduceEqDiff, Int.reduceNeg, eitherK]) | (refine Rn.f ?hc ?_; case hc => simp (config := { implicitDefEqProofs := false, maxSteps := 2000000 }) (disch := omega) only [ps, ↓reduceIte, reduceCtorEq, Int.reduceLT, Int.reduceLE, Int.reduceEq, Nat.reduceLT, Nat.reduceLeDiff, Nat.reduceEqDiff, Int.reduceNeg, eitherK]))
  (first | (refine Rn.t ?hc ?_; case hc => simp (config := { implicitDefEqProofs := false, maxSteps := 2000000 }) (disch := omega) only [ps, ↓reduceIte, reduceCtorEq, Int.reduceLT, Int.reduceLE, Int.reduceEq, Nat.reduceLT, Nat.reduceLeDiff, Nat.reduceEqDiff, Int.reduceNeg, eitherK]) | (refine Rn.f ?hc ?_; case hc => simp (config := { implicitDefEqProofs := false, maxSteps := 2000000 }) (disch := omega) only [ps, ↓reduceIte, reduceCtorEq, Int.reduceLT, Int.reduceLE, Int.reduceEq, Nat.reduceLT, Nat.reduceLeDiff, Nat.reduceEqDiff, Int.reduceNeg, eitherK]))
  exact Rn.pure _
theorem limbGcd_no (h : ¬ (Ri a0 a1 ∧ Ri b0 b1)) : Rn (fun k => Flimb_Gcd k a0 a1 b0 b1) (false, [], 10) := by
  refine Rn.up (f := fun k => Flimb_Gcd k a0 a1 b0 b1) ?_
  show Rn (fun k => blimb_Gcd k a0 a1 b0 b1) _
  unfold blimb_Gcd
  refine Rn.bind (both_ev a0 b0 a1 b1 la lb da db) ?_
  rw [if_neg h]
  (first | (refine Rn.t ?hc ?_; case hc => simp (config := { implicitDefEqProofs := false, maxSteps := 2000000 }) (disch := omega) only [ps, ↓reduceIte, reduceCtorEq, Int.reduceLT, Int.reduceLE, Int.reduceEq, Nat.reduceLT, Nat.reduceLeDiff, Nat.reduceEqDiff, Int.reduceNeg, eitherK]) | (refine Rn.f ?hc ?_; case hc => simp (config := { implicitDefEqProofs := false, maxSteps := 2000000 }) (disch := omega) only [ps, ↓reduceIte, reduceCtorEq, Int.reduceLT, Int.reduceLE, Int.reduceEq, Nat.reduceLT, Nat.reduceLeDiff, Nat.reduceEqDiff, Int.reduceNeg, eitherK]))
  exact Rn.pure _
theorem limbGcd_ev (ha : Ri a0 a1) (hb : Ri b0 b1) : ∃ l, Rn (fun k => Flimb_Gcd k a0 a1 b0 b1) (false, l, 0) ∧ Nm W false l (Int.gcd (Zv W a0 a1) (Zv W b0 b1)) ∧ l.length ≤ 72 := by
  have k1 := ha.1
  have k2 := hb.1
  obtain ⟨l, h1, h2, h3⟩ := Gcd_ev a0 b0 a1 b1 (ha.nm da) (hb.nm db) (by omega) (by omega)
  refine ⟨l, Rn.up (f := fun k => Flimb_Gcd k a0 a1 b0 b1) ?_, h2, by omega⟩
  show Rn (fun k => blimb_Gcd k a0 a1 b0 b1) _
  unfold blimb_Gcd
  refine Rn.bind (both_ev a0 b0 a1 b1 la lb da db) ?_
  rw [if_pos ⟨ha, hb⟩]
  (first | (refine Rn.t ?hc ?_; case hc => simp (config := { implicitDefEqProofs := false, maxSteps := 2000000 }) (disch := omega) only [ps, ↓reduceIte, reduceCtorEq, Int.reduceLT, Int.reduceLE, Int.reduceEq, Nat.reduceLT, Nat.reduceLeDiff, Nat.reduceEqDiff, Int.reduceNeg, eitherK]) | (refine Rn.f ?hc ?_; case hc => simp (config := { implicitDefEqProofs := false, maxSteps := 2000000 }) (disch := omega) only [ps, ↓reduceIte, reduceCtorEq, Int.reduceLT, Int.reduceLE, Int.reduceEq, Nat.reduceLT, Nat.reduceLeDiff, Nat.reduceEqDiff, Int.reduceNeg, eitherK]))
  refine Rn.bind (Take_ri ha) (Rn.bind (Take_ri hb) (Rn.bind h1 (Rn.bind (Give1_ev h2 (show l.length ≤ 1000000000 by omega)) ?_)))
  simp only [List.take_length]
  (first | (refine Rn.t ?hc ?_; case hc => simp (config := { implicitDefEqProofs := false, maxSteps := 2000000 }) (disch := omega) only [ps, ↓reduceIte, reduceCtorEq, Int.reduceLT, Int.reduceLE, Int.reduceEq, Nat.reduceLT, Nat.reduceLeDiff, Nat.reduceEqDiff, Int.reduceNeg, eitherK]) | (refine Rn.f ?hc ?_; case hc => simp (config := { implicitDefEqProofs := false, maxSteps := 2000000 }) (disch := omega) only [ps, ↓reduceIte, reduceCtorEq, Int.reduceLT, Int.reduceLE, Int.reduceEq, Nat.reduceLT, Nat.reduceLeDiff, Nat.reduceEqDiff, Int.reduceNeg, eitherK]))
  exact Rn.pure _
/-- An exact quotient. -/
def exa (s : Bool) (q : List Int) (r : List Int) : Bool × List Int × Int := if r = [] then (s, q, 0) else (false, [], 12)
theorem limbExact_no (h : ¬ (Ri a0 a1 ∧ Ri b0 b1)) : Rn (fun k => Flimb_Exact k a0 a1 b0 b1) (false, [], 10) := by
  refine Rn.up (f := fun k => Flimb_Exact k a0 a1 b0 b1) ?_
  show Rn (fun k => blimb_Exact k a0 a1 b0 b1) _
  unfold blimb_Exact
  refine Rn.bind (limbQuoRem_no la lb da db h) ?_
  (first | (refine Rn.t ?hc ?_; case hc => simp (config := { implicitDefEqProofs := false, maxSteps := 2000000 }) (disch := omega) only [ps, ↓reduceIte, reduceCtorEq, Int.reduceLT, Int.reduceLE, Int.reduceEq, Nat.reduceLT, Nat.reduceLeDiff, Nat.reduceEqDiff, Int.reduceNeg, eitherK]) | (refine Rn.f ?hc ?_; case hc => simp (config := { implicitDefEqProofs := false, maxSteps := 2000000 }) (disch := omega) only [ps, ↓reduceIte, reduceCtorEq, Int.reduceLT, Int.reduceLE, Int.reduceEq, Nat.reduceLT, Nat.reduceLeDiff, Nat.reduceEqDiff, Int.reduceNeg, eitherK]))
  exact Rn.pure _
theorem limbExact_zero (ha : Ri a0 a1) (hb : Ri b0 b1) (h0 : b1 = []) : Rn (fun k => Flimb_Exact k a0 a1 b0 b1) (false, [], 11) := by
  refine Rn.up (f := fun k => Flimb_Exact k a0 a1 b0 b1) ?_
  show Rn (fun k => blimb_Exact k a0 a1 b0 b1) _
  unfold blimb_Exact
  refine Rn.bind (limbQuoRem_zero la lb da db ha hb h0) ?_
  (first | (refine Rn.t ?hc ?_; case hc => simp (config := { implicitDefEqProofs := false, maxSteps := 2000000 }) (disch := omega) only [ps, ↓reduceIte, reduceCtorEq, Int.reduceLT, Int.reduceLE, Int.reduceEq, Nat.reduceLT, Nat.reduceLeDiff, Nat.reduceEqDiff, Int.reduceNeg, eitherK]) | (refine Rn.f ?hc ?_; case hc => simp (config := { implicitDefEqProofs := false, maxSteps := 2000000 }) (disch := omega) only [ps, ↓reduceIte, reduceCtorEq, Int.reduceLT, Int.reduceLE, Int.reduceEq, Nat.reduceLT, Nat.reduceLeDiff, Nat.reduceEqDiff, Int.reduceNeg, eitherK]))
  exact Rn.pure _
theorem limbExact_ev (ha : Ri a0 a1) (hb : Ri b0 b1) (h0 : b1 ≠ []) :
    ∃ s q t r, Rn (fun k => Flimb_QuoRem k a0 a1 b0 b1) (s, q, t, r, 0) ∧ Rn (fun k => Flimb_Exact k a0 a1 b0 b1) (exa s q r) ∧ Nm W s q ((Zv W a0 a1).tdiv (Zv W b0 b1)) ∧ Nm W t r ((Zv W a0 a1).tmod (Zv W b0 b1)) ∧ q.length ≤ a1.length ∧ r.length ≤ a1.length := by
  obtain ⟨s, q, t, r, h1, h2, h3, h4, h5⟩ := limbQuoRem_ev la lb da db ha hb h0
  refine ⟨s, q, t, r, h1, Rn.up (f := fun k => Flimb_Exact k a0 a1 b0 b1) ?_, h2, h3, h4, h5⟩
  show Rn (fun k => blimb_Exact k a0 a1 b0 b1) _
  unfold blimb_Exact
  refine Rn.bind h1 ?_
  (first | (refine Rn.t ?hc ?_; case hc => simp (config := { implicitDefEqProofs := false, maxSteps := 2000000 }) (disch := omega) only [ps, ↓reduceIte, reduceCtorEq, Int.reduceLT, Int.reduceLE, Int.reduceEq, Nat.reduceLT, Nat.reduceLeDiff, Nat.reduceEqDiff, Int.reduceNeg, eitherK]) | (refine Rn.f ?hc ?_; case hc => simp (config := { implicitDefEqProofs := false, maxSteps := 2000000 }) (disch := omega) only [ps, ↓reduceIte, reduceCtorEq, Int.reduceLT, Int.reduceLE, Int.reduceEq, Nat.reduceLT, Nat.reduceLeDiff, Nat.reduceEqDiff, Int.reduceNeg, eitherK]))
  unfold exa
  cases r with
  | nil =>
    (first | (refine Rn.t ?hc ?_; case hc => simp (config := { implicitDefEqProofs := false, maxSteps := 2000000 }) (disch := omega) only [ps, ↓reduceIte, reduceCtorEq, Int.reduceLT, Int.reduceLE, Int.reduceEq, Nat.reduceLT, Nat.reduceLeDiff, Nat.reduceEqDiff, Int.reduceNeg, eitherK]) | (refine Rn.f ?hc ?_; case hc => simp (config := { implicitDefEqProofs := false, maxSteps := 2000000 }) (disch := omega) only [ps, ↓reduceIte, reduceCtorEq, Int.reduceLT, Int.reduceLE, Int.reduceEq, Nat.reduceLT, Nat.reduceLeDiff, Nat.reduceEqDiff, Int.reduceNeg, eitherK]))
    exact Rn.pure _
  | cons y r =>
    have : (y :: r).length = r.length + 1 := rfl
    (first | (refine Rn.t ?hc ?_; case hc => simp (config := { implicitDefEqProofs := false, maxSteps := 2000000 }) (disch := omega) only [ps, ↓reduceIte, reduceCtorEq, Int.reduceLT, Int.reduceLE, Int.reduceEq, Nat.reduceLT, Nat.reduceLeDiff, Nat.reduceEqDiff, Int.reduceNeg, eitherK, this]) | (refine Rn.f ?hc ?_; case hc => simp (config := { implicitDefEqProofs := false, maxSteps := 2000000 }) (disch := omega) only [ps, ↓reduceIte, reduceCtorEq, Int.reduceLT, Int.reduceLE, Int.reduceEq, Nat.reduceLT, Nat.reduceLeDiff, Nat.reduceEqDiff, Int.reduceNeg, eitherK, this]))
    rw [if_neg (by simp)]
    exact Rn.pure _
end
end Go.Proofs.Ytghdpmejgonjmaa.Am

/- Plain reckoning: the reference's division and common divisor, whole. -/
set_option linter.unusedVariables false
set_option linter.unusedSimpArgs false
set_option maxRecDepth 10000
namespace Go.Proofs.Ytghdpmejgonjmaa.Am
open Go

set_option maxHeartbeats 1000000 in
theorem Divide_ev (a0 b0 : Bool) (a1 b1 : List Int) {x y : Int} (nx : Nm U a0 a1 x) (ny : Nm U b0 b1 y) (hla : a1.length ≤ 800000) (hlb : b1.length ≤ 800000) (hb0 : b1 ≠ []) :
    ∃ s q t r, Rn (fun k => Fshuntref01_Divide k a0 a1 b0 b1) (s, q, t, r) ∧ Nm U s q (x.tdiv y) ∧ Nm U t r (x.tmod y) ∧ q.length ≤ a1.length ∧ r.length ≤ b1.length := by
  have hb : 0 < V U b1 := by
    have p := V_nonneg (B := U) (by decide) ny.c.1
    have := mt (ny.c.nil_iff (B := U) (by decide)).2 hb0
    omega
  have pa := V_nonneg (B := U) (by decide) nx.c.1
  obtain ⟨qs, r, z, hz, ⟨lq, dq, cr, hr, hv⟩, K, hl⟩ := div_loop a0 b0 a1 b1 nx.c.1 ny.c hb hla hlb a1.length (List.replicate a1.length 0) [] _ (Nat.le_refl _) (by simp) (Dg.rep _ (by decide)) Cn.nil (by simpa [V] using hb) (by
    rw [List.drop_of_length_le (by simp), List.drop_of_length_le (by simp)]; simp [V]) (.inl ⟨[], [], [], rfl, by simp, rfl⟩)
  have hr0 := V_nonneg (B := U) (by decide) cr.1
  have hu := rdiv_uniq hv hr0 hr
  have cq : Cn U (tl qs) := Cn.of dq
  have e1 := rtdiv_sg a0 b0 (Y := V U b1) pa
  have e2 := rtmod_sg a0 b0 (Y := V U b1) pa
  rw [nx.z, ny.z, ← hu.1] at e1
  rw [nx.z, ny.z, ← hu.2] at e2
  have n1 := nm_sg (a0 := !(a0 == b0)) cq (V_tl qs)
  have n2 := nm_sg (a0 := a0) cr rfl
  have ltq := tl_len qs
  refine ⟨_, _, _, _, ?_, n1.cast e1.symm, n2.cast e2.symm, by omega, ?_⟩
  · refine Rn.up (f := fun k => Fshuntref01_Divide k a0 a1 b0 b1) (Rn.eq (K + a1.length + 4) fun k hk => ?_)
    show bshuntref01_Divide k a0 a1 b0 b1 = _
    unfold bshuntref01_Divide
    have hdec : ∀ l : List Int, decide ((0 : Int) < (l.length : Int)) = decide (0 < l.length) := fun l => by congr 1; simp
    have h1 : Lshuntref01_Divide_0 k k (Sum.inl (a1.length, 0, (a1.length : Int) - 1, a0, a1, b0, b1, false, 0, false, 0, List.replicate a1.length 0, [], [], [])) = some z := hl k k (by omega) (by omega)
    have h2 := rtrim_eq qs (by omega) k (by omega)
    rw [lq] at h2
    have h3 := tl_take qs
    rcases hz with ⟨mem, m1, m2, rfl, g1, g2⟩ | ⟨m1, m2, rfl⟩
    · simp (config := { implicitDefEqProofs := false, maxSteps := 2000000 }) (disch := omega) only [ps, ↓reduceIte, reduceCtorEq, Int.reduceLT, Int.reduceLE, Int.reduceEq, Nat.reduceLT, Nat.reduceLeDiff, Nat.reduceEqDiff, Int.reduceNeg, eitherK, h1]
      simp (config := { implicitDefEqProofs := false, maxSteps := 2000000 }) (disch := omega) only [ps, ↓reduceIte, reduceCtorEq, Int.reduceLT, Int.reduceLE, Int.reduceEq, Nat.reduceLT, Nat.reduceLeDiff, Nat.reduceEqDiff, Int.reduceNeg, eitherK, h2, g1]
      cases a0 <;> cases b0 <;> simp (config := { implicitDefEqProofs := false, maxSteps := 2000000 }) (disch := omega) only [ps, ↓reduceIte, reduceCtorEq, Int.reduceLT, Int.reduceLE, Int.reduceEq, Nat.reduceLT, Nat.reduceLeDiff, Nat.reduceEqDiff, Int.reduceNeg, eitherK, h3, g2, hdec, if_true, if_false]
    · simp (config := { implicitDefEqProofs := false, maxSteps := 2000000 }) (disch := omega) only [ps, ↓reduceIte, reduceCtorEq, Int.reduceLT, Int.reduceLE, Int.reduceEq, Nat.reduceLT, Nat.reduceLeDiff, Nat.reduceEqDiff, Int.reduceNeg, eitherK, h1]
      simp (config := { implicitDefEqProofs := false, maxSteps := 2000000 }) (disch := omega) only [ps, ↓reduceIte, reduceCtorEq, Int.reduceLT, Int.reduceLE, Int.reduceEq, Nat.reduceLT, Nat.reduceLeDiff, Nat.reduceEqDiff, Int.reduceNeg, eitherK, h2]
      cases a0 <;> cases b0 <;> simp (config := { implicitDefEqProofs := false, maxSteps := 2000000 }) (disch := omega) only [ps, ↓reduceIte, reduceCtorEq, Int.reduceLT, Int.reduceLE, Int.reduceEq, Nat.reduceLT, Nat.reduceLeDiff, Nat.reduceEqDiff, Int.reduceNeg, eitherK, h3, hdec, if_true, if_false]
  · refine Nat.le_of_not_lt fun hlt => ?_
    have := Cn.len_lt (B := U) (by decide) ny.c cr hlt
    omega
theorem common_loop (x0 : Bool) (x1 : Nat) (m : List Int) (M : Nat) (hM : M ≤ 800000) : ∀ (N : Nat) (a b : List Int), V U b ≤ N → Cn U a → Cn U b → a.length ≤ M → b.length ≤ M →
    ∃ l b1, (∃ K, ∀ k n, K ≤ k → N < n → Lshuntref01_Common_0 k n false a false b x0 x1 m = some (false, l, false, b1, x0, x1, m)) ∧ Cn U l ∧ V U l = Int.gcd (V U a) (V U b) ∧ l.length ≤ M := by
  intro N
  induction N using Nat.strongRecOn with
  | ind N ih =>
    intro a b hN ca cb ha hb
    have pa := V_nonneg (B := U) (by decide) ca.1
    by_cases h0 : b = []
    · subst h0
      refine ⟨a, [], ⟨0, fun k n _ hn => ?_⟩, ca, by simp [V]; omega, ha⟩
      obtain ⟨n, rfl⟩ : ∃ m, n = m + 1 := ⟨n - 1, by omega⟩
      show Lshuntref01_Common_0s k (Lshuntref01_Common_0 k n) _ _ _ _ _ _ _ = _
      unfold Lshuntref01_Common_0s
      simp (config := { implicitDefEqProofs := false, maxSteps := 2000000 }) (disch := omega) only [ps, ↓reduceIte, reduceCtorEq, Int.reduceLT, Int.reduceLE, Int.reduceEq, Nat.reduceLT, Nat.reduceLeDiff, Nat.reduceEqDiff, Int.reduceNeg, eitherK]
    · have pb : 0 < V U b := by
        have p := V_nonneg (B := U) (by decide) cb.1
        have := mt (cb.nil_iff (B := U) (by decide)).2 h0
        omega
      obtain ⟨s, q, t, r, ⟨K1, h1⟩, h2, h3, h4, h5⟩ := Divide_ev false false a b (nm_pos ca rfl) (nm_pos cb rfl) (by omega) (by omega) h0
      have hr0 := Int.emod_nonneg (V U a) (show V U b ≠ 0 by omega)
      have hr1 := Int.emod_lt_of_pos (V U a) pb
      rw [tmod_pos pa] at h3
      obtain ⟨R, hR⟩ := Int.eq_ofNat_of_zero_le hr0
      have ht : t = false := by rw [h3.neg (by decide)]; simp; omega
      subst ht
      have hvr : V U r = R := by rw [h3.abs (by decide), hR]; rfl
      obtain ⟨l, b1, ⟨K2, i1⟩, i2, i3, i4⟩ := ih R (by omega) b r (by omega) cb h3.c hb (by omega)
      refine ⟨l, b1, ⟨max K1 K2, fun k n hk hn => ?_⟩, i2, ?_, i4⟩
      · obtain ⟨n, rfl⟩ : ∃ m, n = m + 1 := ⟨n - 1, by omega⟩
        rw [← i1 k n (by omega) (by omega)]
        have c1 := h1 k (by omega)
        have lb : 0 < b.length := by
          cases b with
          | nil => exact absurd rfl h0
          | cons _ _ => simp
        show Lshuntref01_Common_0s k (Lshuntref01_Common_0 k n) _ _ _ _ _ _ _ = _
        unfold Lshuntref01_Common_0s
        simp (config := { implicitDefEqProofs := false, maxSteps := 2000000 }) (disch := omega) only [ps, ↓reduceIte, reduceCtorEq, Int.reduceLT, Int.reduceLE, Int.reduceEq, Nat.reduceLT, Nat.reduceLeDiff, Nat.reduceEqDiff, Int.reduceNeg, eitherK, c1]
      · rw [i3, hvr, ← hR]
        obtain ⟨A, hA⟩ := Int.eq_ofNat_of_zero_le pa
        obtain ⟨B, hB⟩ := Int.eq_ofNat_of_zero_le (Int.le_of_lt pb)
        rw [hA, hB]
        show (((Int.gcd (B : Int) ((A % B : Nat) : Int)) : Nat) : Int) = _
        rw [Int.gcd_natCast_natCast, Int.gcd_natCast_natCast, Nat.gcd_comm, ← Nat.gcd_rec, Nat.gcd_comm]
theorem Common_ev (a0 b0 : Bool) (a1 b1 : List Int) {x y : Int} (nx : Nm U a0 a1 x) (ny : Nm U b0 b1 y) (hx : a1.length ≤ 800000) (hy : b1.length ≤ 800000) :
    ∃ l, Rn (fun k => Fshuntref01_Common k a0 a1 b0 b1) (false, l) ∧ Nm U false l (Int.gcd x y) ∧ l.length ≤ max a1.length b1.length := by
  obtain ⟨N, hN⟩ := Int.eq_ofNat_of_zero_le (V_nonneg (B := U) (by decide) ny.c.1)
  obtain ⟨l, b', ⟨K, h1⟩, h2, h3, h4⟩ := common_loop false 0 [] (max a1.length b1.length) (by omega) N a1 b1 (by omega) nx.c ny.c (by omega) (by omega)
  have e : (Int.gcd (V U a1) (V U b1) : Int) = Int.gcd x y := by
    have e1 := nx.z
    have e2 := ny.z
    rw [← e1, ← e2]
    cases a0 <;> cases b0 <;> simp
  refine ⟨l, Rn.up (f := fun k => Fshuntref01_Common k a0 a1 b0 b1) ?_, nm_pos h2 (by rw [h3, e]), h4⟩
  have q1 : Rn (fun k => Fshuntref01_Abs k a0 a1) (false, a1) := Rn.up (f := fun k => Fshuntref01_Abs k a0 a1) (Rn.pure _)
  have q2 : Rn (fun k => Fshuntref01_Abs k b0 b1) (false, b1) := Rn.up (f := fun k => Fshuntref01_Abs k b0 b1) (Rn.pure _)
  refine Rn.bind (f := fun k => Fshuntref01_Abs k a0 a1) q1 (Rn.bind q2 ?_)
  exact Rn.bind (x := (false, l, false, b', false, 0, [])) (Rn.eq (K + N + 1) fun k hk => h1 k k (by omega) (by omega)) (Rn.pure _)
section
variable {a0 b0 : Bool} {a1 b1 : List Int} (la : a1.length ≤ 9223372036854775807) (lb : b1.length ≤ 9223372036854775807) (da : Dg W a1) (db : Dg W b1)
include la lb da db
theorem two_gcd (ha : Ri a0 a1) (hb : Ri b0 b1) : ∃ s m, Rn (fun k => Fshuntref01_Two k 103 a0 a1 b0 b1) (ans s m) ∧ Nm W s m (Int.gcd (Zv W a0 a1) (Zv W b0 b1)) ∧ m.length ≤ 72 := by
  have k1 := ha.1
  have k2 := hb.1
  obtain ⟨l1, p1, p2, p3⟩ := rTake_ev a0 a1 (by omega) (ha.nm da)
  obtain ⟨l2, q1, q2, q3⟩ := rTake_ev b0 b1 (by omega) (hb.nm db)
  obtain ⟨l, r1, r2, r3⟩ := Common_ev a0 b0 l1 l2 p2 q2 (by omega) (by omega)
  obtain ⟨m, t1, t2, t3⟩ := told_ev false l (by omega) r2
  refine ⟨false, m, Rn.up (f := fun k => Fshuntref01_Two k 103 a0 a1 b0 b1) ?_, t2, by omega⟩
  show Rn (fun k => bshuntref01_Two k 103 a0 a1 b0 b1) _
  unfold bshuntref01_Two
  refine Rn.bind (right_ev a0 a1 la da) ?_
  (first | (refine Rn.t ?hc ?_; case hc => simp (config := { implicitDefEqProofs := false, maxSteps := 2000000 }) (disch := omega) only [ps, ↓reduceIte, reduceCtorEq, Int.reduceLT, Int.reduceLE, Int.reduceEq, Nat.reduceLT, Nat.reduceLeDiff, Nat.reduceEqDiff, Int.reduceNeg, eitherK, ha, decide_true]) | (refine Rn.f ?hc ?_; case hc => simp (config := { implicitDefEqProofs := false, maxSteps := 2000000 }) (disch := omega) only [ps, ↓reduceIte, reduceCtorEq, Int.reduceLT, Int.reduceLE, Int.reduceEq, Nat.reduceLT, Nat.reduceLeDiff, Nat.reduceEqDiff, Int.reduceNeg, eitherK, ha, decide_true]))
  refine Rn.bind (right_ev b0 b1 lb db) ?_
  (first | (refine Rn.t ?hc ?_; case hc => simp (config := { implicitDefEqProofs := false, maxSteps := 2000000 }) (disch := omega) only [ps, ↓reduceIte, reduceCtorEq, Int.reduceLT, Int.reduceLE, Int.reduceEq, Nat.reduceLT, Nat.reduceLeDiff, Nat.reduceEqDiff, Int.reduceNeg, eitherK, hb, decide_true]) | (refine Rn.f ?hc ?_; case hc => simp (config := { implicitDefEqProofs := false, maxSteps := 2000000 }) (disch := omega) only [ps, ↓reduceIte, reduceCtorEq, Int.reduceLT, Int.reduceLE, Int.reduceEq, Nat.reduceLT, Nat.reduceLeDiff, Nat.reduceEqDiff, Int.reduceNeg, eitherK, hb, decide_true]))
  refine Rn.bind p1 (Rn.bind q1 ?_)
  (first | (refine Rn.t ?hc ?_; case hc => simp (config := { implicitDefEqProofs := false, maxSteps := 2000000 }) (disch := omega) only [ps, ↓reduceIte, reduceCtorEq, Int.reduceLT, Int.reduceLE, Int.reduceEq, Nat.reduceLT, Nat.reduceLeDiff, Nat.reduceEqDiff, Int.reduceNeg, eitherK]) | (refine Rn.f ?hc ?_; case hc => simp (config := { implicitDefEqProofs := false, maxSteps := 2000000 }) (disch := omega) only [ps, ↓reduceIte, reduceCtorEq, Int.reduceLT, Int.reduceLE, Int.reduceEq, Nat.reduceLT, Nat.reduceLeDiff, Nat.reduceEqDiff, Int.reduceNeg, eitherK]))
  (first | (refine Rn.t ?hc ?_; case hc => simp (config := { implicitDefEqProofs := false, maxSteps := 2000000 }) (disch := omega) only [ps, ↓reduceIte, reduceCtorEq, Int.reduceLT, Int.reduceLE, Int.reduceEq, Nat.reduceLT, Nat.reduceLeDiff, Nat.reduceEqDiff, Int.reduceNeg, eitherK]) | (refine Rn.f ?hc ?_; case hc => simp (config := { implicitDefEqProofs := false, maxSteps := 2000000 }) (disch := omega) only [ps, ↓reduceIte, reduceCtorEq, Int.reduceLT, Int.reduceLE, Int.reduceEq, Nat.reduceLT, Nat.reduceLeDiff, Nat.reduceEqDiff, Int.reduceNeg, eitherK]))
  (first | (refine Rn.t ?hc ?_; case hc => simp (config := { implicitDefEqProofs := false, maxSteps := 2000000 }) (disch := omega) only [ps, ↓reduceIte, reduceCtorEq, Int.reduceLT, Int.reduceLE, Int.reduceEq, Nat.reduceLT, Nat.reduceLeDiff, Nat.reduceEqDiff, Int.reduceNeg, eitherK]) | (refine Rn.f ?hc ?_; case hc => simp (config := { implicitDefEqProofs := false, maxSteps := 2000000 }) (disch := omega) only [ps, ↓reduceIte, reduceCtorEq, Int.reduceLT, Int.reduceLE, Int.reduceEq, Nat.reduceLT, Nat.reduceLeDiff, Nat.reduceEqDiff, Int.reduceNeg, eitherK]))
  (first | (refine Rn.t ?hc ?_; case hc => simp (config := { implicitDefEqProofs := false, maxSteps := 2000000 }) (disch := omega) only [ps, ↓reduceIte, reduceCtorEq, Int.reduceLT, Int.reduceLE, Int.reduceEq, Nat.reduceLT, Nat.reduceLeDiff, Nat.reduceEqDiff, Int.reduceNeg, eitherK]) | (refine Rn.f ?hc ?_; case hc => simp (config := { implicitDefEqProofs := false, maxSteps := 2000000 }) (disch := omega) only [ps, ↓reduceIte, reduceCtorEq, Int.reduceLT, Int.reduceLE, Int.reduceEq, Nat.reduceLT, Nat.reduceLeDiff, Nat.reduceEqDiff, Int.reduceNeg, eitherK]))
  exact Rn.bind r1 (Rn.bind t1 (Rn.pure _))
theorem two_div0 (ha : Ri a0 a1) (hb : Ri b0 b1) (h0 : b1 = []) : Rn (fun k => Fshuntref01_Two k 47 a0 a1 b0 b1) (false, [], 11) := by
  have k1 := ha.1
  have k2 := hb.1
  obtain ⟨l1, p1, p2, p3⟩ := rTake_ev a0 a1 (by omega) (ha.nm da)
  obtain ⟨l2, q1, q2, q3⟩ := rTake_ev b0 b1 (by omega) (hb.nm db)
  refine Rn.up (f := fun k => Fshuntref01_Two k 47 a0 a1 b0 b1) ?_
  show Rn (fun k => bshuntref01_Two k 47 a0 a1 b0 b1) _
  unfold bshuntref01_Two
  refine Rn.bind (right_ev a0 a1 la da) ?_
  (first | (refine Rn.t ?hc ?_; case hc => simp (config := { implicitDefEqProofs := false, maxSteps := 2000000 }) (disch := omega) only [ps, ↓reduceIte, reduceCtorEq, Int.reduceLT, Int.reduceLE, Int.reduceEq, Nat.reduceLT, Nat.reduceLeDiff, Nat.reduceEqDiff, Int.reduceNeg, eitherK, ha, decide_true]) | (refine Rn.f ?hc ?_; case hc => simp (config := { implicitDefEqProofs := false, maxSteps := 2000000 }) (disch := omega) only [ps, ↓reduceIte, reduceCtorEq, Int.reduceLT, Int.reduceLE, Int.reduceEq, Nat.reduceLT, Nat.reduceLeDiff, Nat.reduceEqDiff, Int.reduceNeg, eitherK, ha, decide_true]))
  refine Rn.bind (right_ev b0 b1 lb db) ?_
  (first | (refine Rn.t ?hc ?_; case hc => simp (config := { implicitDefEqProofs := false, maxSteps := 2000000 }) (disch := omega) only [ps, ↓reduceIte, reduceCtorEq, Int.reduceLT, Int.reduceLE, Int.reduceEq, Nat.reduceLT, Nat.reduceLeDiff, Nat.reduceEqDiff, Int.reduceNeg, eitherK, hb, decide_true]) | (refine Rn.f ?hc ?_; case hc => simp (config := { implicitDefEqProofs := false, maxSteps := 2000000 }) (disch := omega) only [ps, ↓reduceIte, reduceCtorEq, Int.reduceLT, Int.reduceLE, Int.reduceEq, Nat.reduceLT, Nat.reduceLeDiff, Nat.reduceEqDiff, Int.reduceNeg, eitherK, hb, decide_true]))
  refine Rn.bind p1 (Rn.bind q1 ?_)
  (first | (refine Rn.t ?hc ?_; case hc => simp (config := { implicitDefEqProofs := false, maxSteps := 2000000 }) (disch := omega) only [ps, ↓reduceIte, reduceCtorEq, Int.reduceLT, Int.reduceLE, Int.reduceEq, Nat.reduceLT, Nat.reduceLeDiff, Nat.reduceEqDiff, Int.reduceNeg, eitherK]) | (refine Rn.f ?hc ?_; case hc => simp (config := { implicitDefEqProofs := false, maxSteps := 2000000 }) (disch := omega) only [ps, ↓reduceIte, reduceCtorEq, Int.reduceLT, Int.reduceLE, Int.reduceEq, Nat.reduceLT, Nat.reduceLeDiff, Nat.reduceEqDiff, Int.reduceNeg, eitherK]))
  (first | (refine Rn.t ?hc ?_; case hc => simp (config := { implicitDefEqProofs := false, maxSteps := 2000000 }) (disch := omega) only [ps, ↓reduceIte, reduceCtorEq, Int.reduceLT, Int.reduceLE, Int.reduceEq, Nat.reduceLT, Nat.reduceLeDiff, Nat.reduceEqDiff, Int.reduceNeg, eitherK]) | (refine Rn.f ?hc ?_; case hc => simp (config := { implicitDefEqProofs := false, maxSteps := 2000000 }) (disch := omega) only [ps, ↓reduceIte, reduceCtorEq, Int.reduceLT, Int.reduceLE, Int.reduceEq, Nat.reduceLT, Nat.reduceLeDiff, Nat.reduceEqDiff, Int.reduceNeg, eitherK]))
  (first | (refine Rn.t ?hc ?_; case hc => simp (config := { implicitDefEqProofs := false, maxSteps := 2000000 }) (disch := omega) only [ps, ↓reduceIte, reduceCtorEq, Int.reduceLT, Int.reduceLE, Int.reduceEq, Nat.reduceLT, Nat.reduceLeDiff, Nat.reduceEqDiff, Int.reduceNeg, eitherK]) | (refine Rn.f ?hc ?_; case hc => simp (config := { implicitDefEqProofs := false, maxSteps := 2000000 }) (disch := omega) only [ps, ↓reduceIte, reduceCtorEq, Int.reduceLT, Int.reduceLE, Int.reduceEq, Nat.reduceLT, Nat.reduceLeDiff, Nat.reduceEqDiff, Int.reduceNeg, eitherK]))
  (first | (refine Rn.t ?hc ?_; case hc => simp (config := { implicitDefEqProofs := false, maxSteps := 2000000 }) (disch := omega) only [ps, ↓reduceIte, reduceCtorEq, Int.reduceLT, Int.reduceLE, Int.reduceEq, Nat.reduceLT, Nat.reduceLeDiff, Nat.reduceEqDiff, Int.reduceNeg, eitherK]) | (refine Rn.f ?hc ?_; case hc => simp (config := { implicitDefEqProofs := false, maxSteps := 2000000 }) (disch := omega) only [ps, ↓reduceIte, reduceCtorEq, Int.reduceLT, Int.reduceLE, Int.reduceEq, Nat.reduceLT, Nat.reduceLeDiff, Nat.reduceEqDiff, Int.reduceNeg, eitherK]))
  have hz : Zv W b0 b1 = 0 := by rw [h0]; cases b0 <;> simp [Zv, V]
  have hs := Sign_ev b0 l2 q2
  rw [hz] at hs
  refine Rn.bind hs ?_
  (first | (refine Rn.t ?hc ?_; case hc => simp (config := { implicitDefEqProofs := false, maxSteps := 2000000 }) (disch := omega) only [ps, ↓reduceIte, reduceCtorEq, Int.reduceLT, Int.reduceLE, Int.reduceEq, Nat.reduceLT, Nat.reduceLeDiff, Nat.reduceEqDiff, Int.reduceNeg, eitherK, cmpZ, Int.lt_irrefl, if_true, if_false]) | (refine Rn.f ?hc ?_; case hc => simp (config := { implicitDefEqProofs := false, maxSteps := 2000000 }) (disch := omega) only [ps, ↓reduceIte, reduceCtorEq, Int.reduceLT, Int.reduceLE, Int.reduceEq, Nat.reduceLT, Nat.reduceLeDiff, Nat.reduceEqDiff, Int.reduceNeg, eitherK, cmpZ, Int.lt_irrefl, if_true, if_false]))
  exact Rn.pure _
theorem two_div (ha : Ri a0 a1) (hb : Ri b0 b1) (h0 : b1 ≠ []) : ∃ s m t w, Rn (fun k => Fshuntref01_QuoRem k a0 a1 b0 b1) (s, m, t, w, 0) ∧ Rn (fun k => Fshuntref01_Two k 47 a0 a1 b0 b1) (exa s m w) ∧ Nm W s m ((Zv W a0 a1).tdiv (Zv W b0 b1)) ∧ Nm W t w ((Zv W a0 a1).tmod (Zv W b0 b1)) := by
  have k1 := ha.1
  have k2 := hb.1
  obtain ⟨l1, p1, p2, p3⟩ := rTake_ev a0 a1 (by omega) (ha.nm da)
  obtain ⟨l2, q1, q2, q3⟩ := rTake_ev b0 b1 (by omega) (hb.nm db)
  have hyz : ¬ Zv W b0 b1 = 0 := by
    have e := (hb.nm db).abs (by decide)
    have := mt (hb.nm db |>.c.nil_iff (B := W) (by decide)).2 h0
    omega
  have hl2 : l2 ≠ [] := by
    intro h
    have e := q2.abs (by decide)
    rw [h] at e
    simp only [V] at e
    omega
  obtain ⟨s, q, t, r, r1, r2, r3, r4, r5⟩ := Divide_ev a0 b0 l1 l2 p2 q2 (by omega) (by omega) hl2
  obtain ⟨m, t1, t2, t3⟩ := told_ev s q (by omega) r2
  obtain ⟨m', g1, g2, g3⟩ := rGive_ev s q (by omega) r2
  obtain ⟨w, w1, w2, w3⟩ := rGive_ev t r (by omega) r3
  have hmm := (Nm.ext (B := W) (by decide) t2 g2).2
  subst hmm
  refine ⟨s, m, t, w, ?_, ?_, t2, w2⟩
  · refine Rn.up (f := fun k => Fshuntref01_QuoRem k a0 a1 b0 b1) ?_
    show Rn (fun k => bshuntref01_QuoRem k a0 a1 b0 b1) _
    unfold bshuntref01_QuoRem
    have lb0 : 0 < b1.length := by
      cases b1 with
      | nil => exact absurd rfl h0
      | cons _ _ => simp
    refine Rn.bind (right_ev a0 a1 la da) ?_
    (first | (refine Rn.t ?hc ?_; case hc => simp (config := { implicitDefEqProofs := false, maxSteps := 2000000 }) (disch := omega) only [ps, ↓reduceIte, reduceCtorEq, Int.reduceLT, Int.reduceLE, Int.reduceEq, Nat.reduceLT, Nat.reduceLeDiff, Nat.reduceEqDiff, Int.reduceNeg, eitherK, ha, decide_true]) | (refine Rn.f ?hc ?_; case hc => simp (config := { implicitDefEqProofs := false, maxSteps := 2000000 }) (disch := omega) only [ps, ↓reduceIte, reduceCtorEq, Int.reduceLT, Int.reduceLE, Int.reduceEq, Nat.reduceLT, Nat.reduceLeDiff, Nat.reduceEqDiff, Int.reduceNeg, eitherK, ha, decide_true]))
    refine Rn.bind (right_ev b0 b1 lb db) ?_
    (first | (refine Rn.t ?hc ?_; case hc => simp (config := { implicitDefEqProofs := false, maxSteps := 2000000 }) (disch := omega) only [ps, ↓reduceIte, reduceCtorEq, Int.reduceLT, Int.reduceLE, Int.reduceEq, Nat.reduceLT, Nat.reduceLeDiff, Nat.reduceEqDiff, Int.reduceNeg, eitherK, hb, decide_true]) | (refine Rn.f ?hc ?_; case hc => simp (config := { implicitDefEqProofs := false, maxSteps := 2000000 }) (disch := omega) only [ps, ↓reduceIte, reduceCtorEq, Int.reduceLT, Int.reduceLE, Int.reduceEq, Nat.reduceLT, Nat.reduceLeDiff, Nat.reduceEqDiff, Int.reduceNeg, eitherK, hb, decide_true]))
    (first | (refine Rn.t ?hc ?_; case hc => simp (config := { implicitDefEqProofs := false, maxSteps := 2000000 }) (disch := omega) only [ps, ↓reduceIte, reduceCtorEq, Int.reduceLT, Int.reduceLE, Int.reduceEq, Nat.reduceLT, Nat.reduceLeDiff, Nat.reduceEqDiff, Int.reduceNeg, eitherK]) | (refine Rn.f ?hc ?_; case hc => simp (config := { implicitDefEqProofs := false, maxSteps := 2000000 }) (disch := omega) only [ps, ↓reduceIte, reduceCtorEq, Int.reduceLT, Int.reduceLE, Int.reduceEq, Nat.reduceLT, Nat.reduceLeDiff, Nat.reduceEqDiff, Int.reduceNeg, eitherK]))
    exact Rn.bind p1 (Rn.bind q1 (Rn.bind r1 (Rn.bind g1 (Rn.bind w1 (Rn.pure _)))))
  · refine Rn.up (f := fun k => Fshuntref01_Two k 47 a0 a1 b0 b1) ?_
    show Rn (fun k => bshuntref01_Two k 47 a0 a1 b0 b1) _
    unfold bshuntref01_Two
    refine Rn.bind (right_ev a0 a1 la da) ?_
    (first | (refine Rn.t ?hc ?_; case hc => simp (config := { implicitDefEqProofs := false, maxSteps := 2000000 }) (disch := omega) only [ps, ↓reduceIte, reduceCtorEq, Int.reduceLT, Int.reduceLE, Int.reduceEq, Nat.reduceLT, Nat.reduceLeDiff, Nat.reduceEqDiff, Int.reduceNeg, eitherK, ha, decide_true]) | (refine Rn.f ?hc ?_; case hc => simp (config := { implicitDefEqProofs := false, maxSteps := 2000000 }) (disch := omega) only [ps, ↓reduceIte, reduceCtorEq, Int.reduceLT, Int.reduceLE, Int.reduceEq, Nat.reduceLT, Nat.reduceLeDiff, Nat.reduceEqDiff, Int.reduceNeg, eitherK, ha, decide_true]))
    refine Rn.bind (right_ev b0 b1 lb db) ?_
    (first | (refine Rn.t ?hc ?_; case hc => simp (config := { implicitDefEqProofs := false, maxSteps := 2000000 }) (disch := omega) only [ps, ↓reduceIte, reduceCtorEq, Int.reduceLT, Int.reduceLE, Int.reduceEq, Nat.reduceLT, Nat.reduceLeDiff, Nat.reduceEqDiff, Int.reduceNeg, eitherK, hb, decide_true]) | (refine Rn.f ?hc ?_; case hc => simp (config := { implicitDefEqProofs := false, maxSteps := 2000000 }) (disch := omega) only [ps, ↓reduceIte, reduceCtorEq, Int.reduceLT, Int.reduceLE, Int.reduceEq, Nat.reduceLT, Nat.reduceLeDiff, Nat.reduceEqDiff, Int.reduceNeg, eitherK, hb, decide_true]))
    refine Rn.bind p1 (Rn.bind q1 ?_)
    (first | (refine Rn.t ?hc ?_; case hc => simp (config := { implicitDefEqProofs := false, maxSteps := 2000000 }) (disch := omega) only [ps, ↓reduceIte, reduceCtorEq, Int.reduceLT, Int.reduceLE, Int.reduceEq, Nat.reduceLT, Nat.reduceLeDiff, Nat.reduceEqDiff, Int.reduceNeg, eitherK]) | (refine Rn.f ?hc ?_; case hc => simp (config := { implicitDefEqProofs := false, maxSteps := 2000000 }) (disch := omega) only [ps, ↓reduceIte, reduceCtorEq, Int.reduceLT, Int.reduceLE, Int.reduceEq, Nat.reduceLT, Nat.reduceLeDiff, Nat.reduceEqDiff, Int.reduceNeg, eitherK]))
    (first | (refine Rn.t ?hc ?_; case hc => simp (config := { implicitDefEqProofs := false, maxSteps := 2000000 }) (disch := omega) only [ps, ↓reduceIte, reduceCtorEq, Int.reduceLT, Int.reduceLE, Int.reduceEq, Nat.reduceLT, Nat.reduceLeDiff, Nat.reduceEqDiff, Int.reduceNeg, eitherK]) | (refine Rn.f ?hc ?_; case hc => simp (config := { implicitDefEqProofs := false, maxSteps := 2000000 }) (disch := omega) only [ps, ↓reduceIte, reduceCtorEq, Int.reduceLT, Int.reduceLE, Int.reduceEq, Nat.reduceLT, Nat.reduceLeDiff, Nat.reduceEqDiff, Int.reduceNeg, eitherK]))
    (first | (refine Rn.t ?hc ?_; case hc => simp (config := { implicitDefEqProofs := false, maxSteps := 2000000 }) (disch := omega) only [ps, ↓reduceIte, reduceCtorEq, Int.reduceLT, Int.reduceLE, Int.reduceEq, Nat.reduceLT, Nat.reduceLeDiff, Nat.reduceEqDiff, Int.reduceNeg, eitherK]) | (refine Rn.f ?hc ?_; case hc => simp (config := { implicitDefEqProofs := false, maxSteps := 2000000 }) (disch := omega) only [ps, ↓reduceIte, reduceCtorEq, Int.reduceLT, Int.reduceLE, Int.reduceEq, Nat.reduceLT, Nat.reduceLeDiff, Nat.reduceEqDiff, Int.reduceNeg, eitherK]))
    (first | (refine Rn.t ?hc ?_; case hc => simp (config := { implicitDefEqProofs := false, maxSteps := 2000000 }) (disch := omega) only [ps, ↓reduceIte, reduceCtorEq, Int.reduceLT, Int.reduceLE, Int.reduceEq, Nat.reduceLT, Nat.reduceLeDiff, Nat.reduceEqDiff, Int.reduceNeg, eitherK]) | (refine Rn.f ?hc ?_; case hc => simp (config := { implicitDefEqProofs := false, maxSteps := 2000000 }) (disch := omega) only [ps, ↓reduceIte, reduceCtorEq, Int.reduceLT, Int.reduceLE, Int.reduceEq, Nat.reduceLT, Nat.reduceLeDiff, Nat.reduceEqDiff, Int.reduceNeg, eitherK]))
    obtain ⟨cz, hcz, hcases⟩ := cmpZ_cases (Zv W b0 b1) 0
    have hs := Sign_ev b0 l2 q2
    rw [hcz] at hs
    refine Rn.bind hs ?_
    (first | (refine Rn.t ?hc ?_; case hc => simp (config := { implicitDefEqProofs := false, maxSteps := 2000000 }) (disch := omega) only [ps, ↓reduceIte, reduceCtorEq, Int.reduceLT, Int.reduceLE, Int.reduceEq, Nat.reduceLT, Nat.reduceLeDiff, Nat.reduceEqDiff, Int.reduceNeg, eitherK]) | (refine Rn.f ?hc ?_; case hc => simp (config := { implicitDefEqProofs := false, maxSteps := 2000000 }) (disch := omega) only [ps, ↓reduceIte, reduceCtorEq, Int.reduceLT, Int.reduceLE, Int.reduceEq, Nat.reduceLT, Nat.reduceLeDiff, Nat.reduceEqDiff, Int.reduceNeg, eitherK]))
    refine Rn.bind r1 ?_
    obtain ⟨cy, hcy, hcases2⟩ := cmpZ_cases ((Zv W a0 a1).tmod (Zv W b0 b1)) 0
    have hs2 := Sign_ev t r r3
    rw [hcy] at hs2
    refine Rn.bind hs2 ?_
    have hw := w2.c.nil_iff (B := W) (by decide)
    have hw2 := w2.abs (by decide)
    by_cases hz : (Zv W a0 a1).tmod (Zv W b0 b1) = 0
    · (first | (refine Rn.t ?hc ?_; case hc => simp (config := { implicitDefEqProofs := false, maxSteps := 2000000 }) (disch := omega) only [ps, ↓reduceIte, reduceCtorEq, Int.reduceLT, Int.reduceLE, Int.reduceEq, Nat.reduceLT, Nat.reduceLeDiff, Nat.reduceEqDiff, Int.reduceNeg, eitherK]) | (refine Rn.f ?hc ?_; case hc => simp (config := { implicitDefEqProofs := false, maxSteps := 2000000 }) (disch := omega) only [ps, ↓reduceIte, reduceCtorEq, Int.reduceLT, Int.reduceLE, Int.reduceEq, Nat.reduceLT, Nat.reduceLeDiff, Nat.reduceEqDiff, Int.reduceNeg, eitherK]))
      have hwn : w = [] := hw.2 (by omega)
      unfold exa
      rw [if_pos hwn]
      refine Rn.bind t1 ?_
      unfold ans
      rw [if_pos (show m.length ≤ 72 by omega)]
      exact Rn.pure _
    · (first | (refine Rn.t ?hc ?_; case hc => simp (config := { implicitDefEqProofs := false, maxSteps := 2000000 }) (disch := omega) only [ps, ↓reduceIte, reduceCtorEq, Int.reduceLT, Int.reduceLE, Int.reduceEq, Nat.reduceLT, Nat.reduceLeDiff, Nat.reduceEqDiff, Int.reduceNeg, eitherK]) | (refine Rn.f ?hc ?_; case hc => simp (config := { implicitDefEqProofs := false, maxSteps := 2000000 }) (disch := omega) only [ps, ↓reduceIte, reduceCtorEq, Int.reduceLT, Int.reduceLE, Int.reduceEq, Nat.reduceLT, Nat.reduceLeDiff, Nat.reduceEqDiff, Int.reduceNeg, eitherK]))
      have hwn : ¬ w = [] := fun h => hz (by have := hw.1 h; omega)
      unfold exa
      rw [if_neg hwn]
      exact Rn.pure _
theorem rquo_no (h : ¬ (Ri a0 a1 ∧ Ri b0 b1)) : Rn (fun k => Fshuntref01_QuoRem k a0 a1 b0 b1) (false, [], false, [], 10) := by
  refine Rn.up (f := fun k => Fshuntref01_QuoRem k a0 a1 b0 b1) ?_
  show Rn (fun k => bshuntref01_QuoRem k a0 a1 b0 b1) _
  unfold bshuntref01_QuoRem
  refine Rn.bind (right_ev a0 a1 la da) ?_
  by_cases ha : Ri a0 a1
  · (first | (refine Rn.t ?hc ?_; case hc => simp (config := { implicitDefEqProofs := false, maxSteps := 2000000 }) (disch := omega) only [ps, ↓reduceIte, reduceCtorEq, Int.reduceLT, Int.reduceLE, Int.reduceEq, Nat.reduceLT, Nat.reduceLeDiff, Nat.reduceEqDiff, Int.reduceNeg, eitherK, ha, decide_true]) | (refine Rn.f ?hc ?_; case hc => simp (config := { implicitDefEqProofs := false, maxSteps := 2000000 }) (disch := omega) only [ps, ↓reduceIte, reduceCtorEq, Int.reduceLT, Int.reduceLE, Int.reduceEq, Nat.reduceLT, Nat.reduceLeDiff, Nat.reduceEqDiff, Int.reduceNeg, eitherK, ha, decide_true]))
    refine Rn.bind (right_ev b0 b1 lb db) ?_
    have hb : ¬ Ri b0 b1 := fun hb => h ⟨ha, hb⟩
    (first | (refine Rn.t ?hc ?_; case hc => simp (config := { implicitDefEqProofs := false, maxSteps := 2000000 }) (disch := omega) only [ps, ↓reduceIte, reduceCtorEq, Int.reduceLT, Int.reduceLE, Int.reduceEq, Nat.reduceLT, Nat.reduceLeDiff, Nat.reduceEqDiff, Int.reduceNeg, eitherK, hb, decide_false]) | (refine Rn.f ?hc ?_; case hc => simp (config := { implicitDefEqProofs := false, maxSteps := 2000000 }) (disch := omega) only [ps, ↓reduceIte, reduceCtorEq, Int.reduceLT, Int.reduceLE, Int.reduceEq, Nat.reduceLT, Nat.reduceLeDiff, Nat.reduceEqDiff, Int.reduceNeg, eitherK, hb, decide_false]))
    exact Rn.pure _
  · (first | (refine Rn.t ?hc ?_; case hc => simp (config := { implicitDefEqProofs := false, maxSteps := 2000000 }) (disch := omega) only [ps, ↓reduceIte, reduceCtorEq, Int.reduceLT, Int.reduceLE, Int.reduceEq, Nat.reduceLT, Nat.reduceLeDiff, Nat.reduceEqDiff, Int.reduceNeg, eitherK, ha, decide_false]) | (refine Rn.f ?hc ?_; case hc => simp (config := { implicitDefEqProofs := false, maxSteps := 2000000 }) (disch := omega) only [ps, ↓reduceIte, reduceCtorEq, Int.reduceLT, Int.reduceLE, Int.reduceEq, Nat.reduceLT, Nat.reduceLeDiff, Nat.reduceEqDiff, Int.reduceNeg, eitherK, ha, decide_false]))
    exact Rn.pure _
theorem rquo_zero (ha : Ri a0 a1) (hb : Ri b0 b1) (h0 : b1 = []) : Rn (fun k => Fshuntref01_QuoRem k a0 a1 b0 b1) (false, [], false, [], 11) := by
  refine Rn.up (f := fun k => Fshuntref01_QuoRem k a0 a1 b0 b1) ?_
  show Rn (fun k => bshuntref01_QuoRem k a0 a1 b0 b1) _
  unfold bshuntref01_QuoRem
  refine Rn.bind (right_ev a0 a1 la da) ?_
  (first | (refine Rn.t ?hc ?_; case hc => simp (config := { implicitDefEqProofs := false, maxSteps := 2000000 }) (disch := omega) only [ps, ↓reduceIte, reduceCtorEq, Int.reduceLT, Int.reduceLE, Int.reduceEq, Nat.reduceLT, Nat.reduceLeDiff, Nat.reduceEqDiff, Int.reduceNeg, eitherK, ha, decide_true]) | (refine Rn.f ?hc ?_; case hc => simp (config := { implicitDefEqProofs := false, maxSteps := 2000000 }) (disch := omega) only [ps, ↓reduceIte, reduceCtorEq, Int.reduceLT, Int.reduceLE, Int.reduceEq, Nat.reduceLT, Nat.reduceLeDiff, Nat.reduceEqDiff, Int.reduceNeg, eitherK, ha, decide_true]))
  refine Rn.bind (right_ev b0 b1 lb db) ?_
  (first | (refine Rn.t ?hc ?_; case hc => simp (config := { implicitDefEqProofs := false, maxSteps := 2000000 }) (disch := omega) only [ps, ↓reduceIte, reduceCtorEq, Int.reduceLT, Int.reduceLE, Int.reduceEq, Nat.reduceLT, Nat.reduceLeDiff, Nat.reduceEqDiff, Int.reduceNeg, eitherK, hb, decide_true]) | (refine Rn.f ?hc ?_; case hc => simp (config := { implicitDefEqProofs := false, maxSteps := 2000000 }) (disch := omega) only [ps, ↓reduceIte, reduceCtorEq, Int.reduceLT, Int.reduceLE, Int.reduceEq, Nat.reduceLT, Nat.reduceLeDiff, Nat.reduceEqDiff, Int.reduceNeg, eitherK, hb, decide_true]))
  subst h0
  (first | (refine Rn.t ?hc ?_; case hc => simp (config := { implicitDefEqProofs := false, maxSteps := 2000000 }) (disch := omega) only [ps, ↓reduceIte, reduceCtorEq, Int.reduceLT, Int.reduceLE, Int.reduceEq, Nat.reduceLT, Nat.reduceLeDiff, Nat.reduceEqDiff, Int.reduceNeg, eitherK]) | (refine Rn.f ?hc ?_; case hc => simp (config := { implicitDefEqProofs := false, maxSteps := 2000000 }) (disch := omega) only [ps, ↓reduceIte, reduceCtorEq, Int.reduceLT, Int.reduceLE, Int.reduceEq, Nat.reduceLT, Nat.reduceLeDiff, Nat.reduceEqDiff, Int.reduceNeg, eitherK]))
  exact Rn.pure _
end
end Go.Proofs.Ytghdpmejgonjmaa.Am

/- Quotients, exact quotients and common divisors are the document's: the plain statement. -/
set_option linter.unusedVariables false
set_option linter.unusedSimpArgs false
set_option maxRecDepth 10000
namespace Go.Proofs.Ytghdpmejgonjmaa.Am
open Go

theorem parts_all {a0 b0 : Bool} {a1 b1 : List Int} (la : a1.length ≤ 9223372036854775807) (lb : b1.length ≤ 9223372036854775807) (da : Dg W a1) (db : Dg W b1) :
    ∃ s q t r eQ sE lE eE sG lG eG, q.length ≤ 72 ∧ r.length ≤ 72 ∧ lE.length ≤ 72 ∧ lG.length ≤ 72 ∧
      Rn (fun k => Flimb_QuoRem k a0 a1 b0 b1) (s, q, t, r, eQ) ∧ Rn (fun k => Flimb_Exact k a0 a1 b0 b1) (sE, lE, eE) ∧ Rn (fun k => Flimb_Gcd k a0 a1 b0 b1) (sG, lG, eG) ∧
      Rn (fun k => Fshuntref01_QuoRem k a0 a1 b0 b1) (s, q, t, r, eQ) ∧ Rn (fun k => Fshuntref01_Two k 47 a0 a1 b0 b1) (sE, lE, eE) ∧ Rn (fun k => Fshuntref01_Two k 103 a0 a1 b0 b1) (sG, lG, eG) := by
  have hW : (0 : Int) < W := by decide
  by_cases h : Ri a0 a1 ∧ Ri b0 b1
  · obtain ⟨ha, hb⟩ := h
    have k1 := ha.1
    have k2 := hb.1
    obtain ⟨lg, g1, g2, g3⟩ := limbGcd_ev la lb da db ha hb
    obtain ⟨sg, mg, u1, u2, u3⟩ := two_gcd la lb da db ha hb
    obtain ⟨rfl, rfl⟩ := Nm.ext hW g2 u2
    unfold ans at u1
    rw [if_pos u3] at u1
    by_cases h0 : b1 = []
    · exact ⟨_, _, _, _, _, _, _, _, _, _, _, by simp, by simp, by simp, g3, limbQuoRem_zero la lb da db ha hb h0, limbExact_zero la lb da db ha hb h0, g1, rquo_zero la lb da db ha hb h0, two_div0 la lb da db ha hb h0, u1⟩
    · obtain ⟨s, q, t, r, p1, p2, p3, p4, p5, p6⟩ := limbExact_ev la lb da db ha hb h0
      obtain ⟨s', q', t', r', q1, q2, q3, q4⟩ := two_div la lb da db ha hb h0
      obtain ⟨rfl, rfl⟩ := Nm.ext hW p3 q3
      obtain ⟨rfl, rfl⟩ := Nm.ext hW p4 q4
      have hex : (exa s q r).2.1.length ≤ 72 := by
        unfold exa; split
        · show q.length ≤ 72; omega
        · simp
      exact ⟨s, q, t, r, 0, (exa s q r).1, (exa s q r).2.1, (exa s q r).2.2, _, _, _, by omega, by omega, hex, g3, p1, p2, g1, q1, q2, u1⟩
  · exact ⟨false, [], false, [], 10, false, [], 10, false, [], 10, by simp, by simp, by simp, by simp, limbQuoRem_no la lb da db h, limbExact_no la lb da db h, limbGcd_no la lb da db h, rquo_no la lb da db h, two_no la lb da db _ h, two_no la lb da db _ h⟩
set_option maxHeartbeats 4000000 in
theorem pure_LimbParts (x y : Bool × List Int) (wx : Wfd (.pr .bool (.sl (.int .u32))) x) (wy : Wfd (.pr .bool (.sl (.int .u32))) y) :
    ∃ k, Fshuntlaw01_LimbParts k x.1 x.2 y.1 y.2 = some true := by
  obtain ⟨a0, a1⟩ := x
  obtain ⟨b0, b1⟩ := y
  obtain ⟨da, la⟩ := dg_of wx.2
  obtain ⟨db, lb⟩ := dg_of wy.2
  simp only at da db la lb
  refine Rn.get (Rn.up (f := fun k => Fshuntlaw01_LimbParts k a0 a1 b0 b1) ?_)
  show Rn (fun k => bshuntlaw01_LimbParts k a0 a1 b0 b1) _
  unfold bshuntlaw01_LimbParts
  refine Rn.bind awake_ev ?_
  (first | (refine Rn.t ?hc ?_; case hc => simp (config := { implicitDefEqProofs := false, maxSteps := 2000000 }) (disch := omega) only [ps, ↓reduceIte, reduceCtorEq, Int.reduceLT, Int.reduceLE, Int.reduceEq, Nat.reduceLT, Nat.reduceLeDiff, Nat.reduceEqDiff, Int.reduceNeg, eitherK]) | (refine Rn.f ?hc ?_; case hc => simp (config := { implicitDefEqProofs := false, maxSteps := 2000000 }) (disch := omega) only [ps, ↓reduceIte, reduceCtorEq, Int.reduceLT, Int.reduceLE, Int.reduceEq, Nat.reduceLT, Nat.reduceLeDiff, Nat.reduceEqDiff, Int.reduceNeg, eitherK]))
  refine Rn.bind (long_ev a0 a1) ?_
  by_cases ha : a1.length ≤ 80
  case neg => (first | (refine Rn.t ?hc ?_; case hc => simp (config := { implicitDefEqProofs := false, maxSteps := 2000000 }) (disch := omega) only [ps, ↓reduceIte, reduceCtorEq, Int.reduceLT, Int.reduceLE, Int.reduceEq, Nat.reduceLT, Nat.reduceLeDiff, Nat.reduceEqDiff, Int.reduceNeg, eitherK]) | (refine Rn.f ?hc ?_; case hc => simp (config := { implicitDefEqProofs := false, maxSteps := 2000000 }) (disch := omega) only [ps, ↓reduceIte, reduceCtorEq, Int.reduceLT, Int.reduceLE, Int.reduceEq, Nat.reduceLT, Nat.reduceLeDiff, Nat.reduceEqDiff, Int.reduceNeg, eitherK])); exact Rn.pure _
  (first | (refine Rn.t ?hc ?_; case hc => simp (config := { implicitDefEqProofs := false, maxSteps := 2000000 }) (disch := omega) only [ps, ↓reduceIte, reduceCtorEq, Int.reduceLT, Int.reduceLE, Int.reduceEq, Nat.reduceLT, Nat.reduceLeDiff, Nat.reduceEqDiff, Int.reduceNeg, eitherK]) | (refine Rn.f ?hc ?_; case hc => simp (config := { implicitDefEqProofs := false, maxSteps := 2000000 }) (disch := omega) only [ps, ↓reduceIte, reduceCtorEq, Int.reduceLT, Int.reduceLE, Int.reduceEq, Nat.reduceLT, Nat.reduceLeDiff, Nat.reduceEqDiff, Int.reduceNeg, eitherK]))
  refine Rn.bind (long_ev b0 b1) ?_
  by_cases hb : b1.length ≤ 80
  case neg => (first | (refine Rn.t ?hc ?_; case hc => simp (config := { implicitDefEqProofs := false, maxSteps := 2000000 }) (disch := omega) only [ps, ↓reduceIte, reduceCtorEq, Int.reduceLT, Int.reduceLE, Int.reduceEq, Nat.reduceLT, Nat.reduceLeDiff, Nat.reduceEqDiff, Int.reduceNeg, eitherK]) | (refine Rn.f ?hc ?_; case hc => simp (config := { implicitDefEqProofs := false, maxSteps := 2000000 }) (disch := omega) only [ps, ↓reduceIte, reduceCtorEq, Int.reduceLT, Int.reduceLE, Int.reduceEq, Nat.reduceLT, Nat.reduceLeDiff, Nat.reduceEqDiff, Int.reduceNeg, eitherK])); exact Rn.pure _
  (first | (refine Rn.t ?hc ?_; case hc => simp (config := { implicitDefEqProofs := false, maxSteps := 2000000 }) (disch := omega) only [ps, ↓reduceIte, reduceCtorEq, Int.reduceLT, Int.reduceLE, Int.reduceEq, Nat.reduceLT, Nat.reduceLeDiff, Nat.reduceEqDiff, Int.reduceNeg, eitherK]) | (refine Rn.f ?hc ?_; case hc => simp (config := { implicitDefEqProofs := false, maxSteps := 2000000 }) (disch := omega) only [ps, ↓reduceIte, reduceCtorEq, Int.reduceLT, Int.reduceLE, Int.reduceEq, Nat.reduceLT, Nat.reduceLeDiff, Nat.reduceEqDiff, Int.reduceNeg, eitherK]))
  refine Rn.bind (lent_ev a0 a1 ha) (Rn.bind (lent_ev b0 b1 hb) ?_)
  have m1 : (mk a1).length = a1.length + 1 := by simp
  have m2 : (mk b1).length = b1.length + 1 := by simp
  have t1 : List.take a1.length (mk a1) = a1 := List.take_left
  have t2 : List.take b1.length (mk b1) = b1 := List.take_left
  obtain ⟨s, q, t, r, eQ, sE, lE, eE, sG, lG, eG, h1, h2, h3, h4, p1, p2, p3, q1, q2, q3⟩ := parts_all (a0 := a0) (b0 := b0) la lb da db
  simp only [t1, t2]
  (first | (refine Rn.t ?hc ?_; case hc => simp (config := { implicitDefEqProofs := false, maxSteps := 2000000 }) (disch := omega) only [ps, ↓reduceIte, reduceCtorEq, Int.reduceLT, Int.reduceLE, Int.reduceEq, Nat.reduceLT, Nat.reduceLeDiff, Nat.reduceEqDiff, Int.reduceNeg, eitherK, m1]) | (refine Rn.f ?hc ?_; case hc => simp (config := { implicitDefEqProofs := false, maxSteps := 2000000 }) (disch := omega) only [ps, ↓reduceIte, reduceCtorEq, Int.reduceLT, Int.reduceLE, Int.reduceEq, Nat.reduceLT, Nat.reduceLeDiff, Nat.reduceEqDiff, Int.reduceNeg, eitherK, m1]))
  (first | (refine Rn.t ?hc ?_; case hc => simp (config := { implicitDefEqProofs := false, maxSteps := 2000000 }) (disch := omega) only [ps, ↓reduceIte, reduceCtorEq, Int.reduceLT, Int.reduceLE, Int.reduceEq, Nat.reduceLT, Nat.reduceLeDiff, Nat.reduceEqDiff, Int.reduceNeg, eitherK, m2]) | (refine Rn.f ?hc ?_; case hc => simp (config := { implicitDefEqProofs := false, maxSteps := 2000000 }) (disch := omega) only [ps, ↓reduceIte, reduceCtorEq, Int.reduceLT, Int.reduceLE, Int.reduceEq, Nat.reduceLT, Nat.reduceLeDiff, Nat.reduceEqDiff, Int.reduceNeg, eitherK, m2]))
  refine Rn.bind p1 (Rn.bind q1 ?_)
  (first | (refine Rn.t ?hc ?_; case hc => simp (config := { implicitDefEqProofs := false, maxSteps := 2000000 }) (disch := omega) only [ps, ↓reduceIte, reduceCtorEq, Int.reduceLT, Int.reduceLE, Int.reduceEq, Nat.reduceLT, Nat.reduceLeDiff, Nat.reduceEqDiff, Int.reduceNeg, eitherK, m1]) | (refine Rn.f ?hc ?_; case hc => simp (config := { implicitDefEqProofs := false, maxSteps := 2000000 }) (disch := omega) only [ps, ↓reduceIte, reduceCtorEq, Int.reduceLT, Int.reduceLE, Int.reduceEq, Nat.reduceLT, Nat.reduceLeDiff, Nat.reduceEqDiff, Int.reduceNeg, eitherK, m1]))
  (first | (refine Rn.t ?hc ?_; case hc => simp (config := { implicitDefEqProofs := false, maxSteps := 2000000 }) (disch := omega) only [ps, ↓reduceIte, reduceCtorEq, Int.reduceLT, Int.reduceLE, Int.reduceEq, Nat.reduceLT, Nat.reduceLeDiff, Nat.reduceEqDiff, Int.reduceNeg, eitherK, m2]) | (refine Rn.f ?hc ?_; case hc => simp (config := { implicitDefEqProofs := false, maxSteps := 2000000 }) (disch := omega) only [ps, ↓reduceIte, reduceCtorEq, Int.reduceLT, Int.reduceLE, Int.reduceEq, Nat.reduceLT, Nat.reduceLeDiff, Nat.reduceEqDiff, Int.reduceNeg, eitherK, m2]))
  refine Rn.bind p2 (Rn.bind q2 ?_)
  (first | (refine Rn.t ?hc ?_; case hc => simp (config := { implicitDefEqProofs := false, maxSteps := 2000000 }) (disch := omega) only [ps, ↓reduceIte, reduceCtorEq, Int.reduceLT, Int.reduceLE, Int.reduceEq, Nat.reduceLT, Nat.reduceLeDiff, Nat.reduceEqDiff, Int.reduceNeg, eitherK, m1]) | (refine Rn.f ?hc ?_; case hc => simp (config := { implicitDefEqProofs := false, maxSteps := 2000000 }) (disch := omega) only [ps, ↓reduceIte, reduceCtorEq, Int.reduceLT, Int.reduceLE, Int.reduceEq, Nat.reduceLT, Nat.reduceLeDiff, Nat.reduceEqDiff, Int.reduceNeg, eitherK, m1]))
  (first | (refine Rn.t ?hc ?_; case hc => simp (config := { implicitDefEqProofs := false, maxSteps := 2000000 }) (disch := omega) only [ps, ↓reduceIte, reduceCtorEq, Int.reduceLT, Int.reduceLE, Int.reduceEq, Nat.reduceLT, Nat.reduceLeDiff, Nat.reduceEqDiff, Int.reduceNeg, eitherK, m2]) | (refine Rn.f ?hc ?_; case hc => simp (config := { implicitDefEqProofs := false, maxSteps := 2000000 }) (disch := omega) only [ps, ↓reduceIte, reduceCtorEq, Int.reduceLT, Int.reduceLE, Int.reduceEq, Nat.reduceLT, Nat.reduceLeDiff, Nat.reduceEqDiff, Int.reduceNeg, eitherK, m2]))
  refine Rn.bind p3 (Rn.bind q3 ?_)
  refine Rn.bind (same_ev s s q q (by omega)) ?_
  (first | (refine Rn.t ?hc ?_; case hc => simp (config := { implicitDefEqProofs := false, maxSteps := 2000000 }) (disch := omega) only [ps, ↓reduceIte, reduceCtorEq, Int.reduceLT, Int.reduceLE, Int.reduceEq, Nat.reduceLT, Nat.reduceLeDiff, Nat.reduceEqDiff, Int.reduceNeg, eitherK, decide_true]) | (refine Rn.f ?hc ?_; case hc => simp (config := { implicitDefEqProofs := false, maxSteps := 2000000 }) (disch := omega) only [ps, ↓reduceIte, reduceCtorEq, Int.reduceLT, Int.reduceLE, Int.reduceEq, Nat.reduceLT, Nat.reduceLeDiff, Nat.reduceEqDiff, Int.reduceNeg, eitherK, decide_true]))
  refine Rn.bind (same_ev t t r r (by omega)) ?_
  (first | (refine Rn.t ?hc ?_; case hc => simp (config := { implicitDefEqProofs := false, maxSteps := 2000000 }) (disch := omega) only [ps, ↓reduceIte, reduceCtorEq, Int.reduceLT, Int.reduceLE, Int.reduceEq, Nat.reduceLT, Nat.reduceLeDiff, Nat.reduceEqDiff, Int.reduceNeg, eitherK, decide_true]) | (refine Rn.f ?hc ?_; case hc => simp (config := { implicitDefEqProofs := false, maxSteps := 2000000 }) (disch := omega) only [ps, ↓reduceIte, reduceCtorEq, Int.reduceLT, Int.reduceLE, Int.reduceEq, Nat.reduceLT, Nat.reduceLeDiff, Nat.reduceEqDiff, Int.reduceNeg, eitherK, decide_true]))
  (first | (refine Rn.t ?hc ?_; case hc => simp (config := { implicitDefEqProofs := false, maxSteps := 2000000 }) (disch := omega) only [ps, ↓reduceIte, reduceCtorEq, Int.reduceLT, Int.reduceLE, Int.reduceEq, Nat.reduceLT, Nat.reduceLeDiff, Nat.reduceEqDiff, Int.reduceNeg, eitherK]) | (refine Rn.f ?hc ?_; case hc => simp (config := { implicitDefEqProofs := false, maxSteps := 2000000 }) (disch := omega) only [ps, ↓reduceIte, reduceCtorEq, Int.reduceLT, Int.reduceLE, Int.reduceEq, Nat.reduceLT, Nat.reduceLeDiff, Nat.reduceEqDiff, Int.reduceNeg, eitherK]))
  refine Rn.bind (same_ev sE sE lE lE (by omega)) ?_
  (first | (refine Rn.t ?hc ?_; case hc => simp (config := { implicitDefEqProofs := false, maxSteps := 2000000 }) (disch := omega) only [ps, ↓reduceIte, reduceCtorEq, Int.reduceLT, Int.reduceLE, Int.reduceEq, Nat.reduceLT, Nat.reduceLeDiff, Nat.reduceEqDiff, Int.reduceNeg, eitherK, decide_true]) | (refine Rn.f ?hc ?_; case hc => simp (config := { implicitDefEqProofs := false, maxSteps := 2000000 }) (disch := omega) only [ps, ↓reduceIte, reduceCtorEq, Int.reduceLT, Int.reduceLE, Int.reduceEq, Nat.reduceLT, Nat.reduceLeDiff, Nat.reduceEqDiff, Int.reduceNeg, eitherK, decide_true]))
  (first | (refine Rn.t ?hc ?_; case hc => simp (config := { implicitDefEqProofs := false, maxSteps := 2000000 }) (disch := omega) only [ps, ↓reduceIte, reduceCtorEq, Int.reduceLT, Int.reduceLE, Int.reduceEq, Nat.reduceLT, Nat.reduceLeDiff, Nat.reduceEqDiff, Int.reduceNeg, eitherK]) | (refine Rn.f ?hc ?_; case hc => simp (config := { implicitDefEqProofs := false, maxSteps := 2000000 }) (disch := omega) only [ps, ↓reduceIte, reduceCtorEq, Int.reduceLT, Int.reduceLE, Int.reduceEq, Nat.reduceLT, Nat.reduceLeDiff, Nat.reduceEqDiff, Int.reduceNeg, eitherK]))
  refine Rn.bind (same_ev sG sG lG lG (by omega)) ?_
  (first | (refine Rn.t ?hc ?_; case hc => simp (config := { implicitDefEqProofs := false, maxSteps := 2000000 }) (disch := omega) only [ps, ↓reduceIte, reduceCtorEq, Int.reduceLT, Int.reduceLE, Int.reduceEq, Nat.reduceLT, Nat.reduceLeDiff, Nat.reduceEqDiff, Int.reduceNeg, eitherK, decide_true]) | (refine Rn.f ?hc ?_; case hc => simp (config := { implicitDefEqProofs := false, maxSteps := 2000000 }) (disch := omega) only [ps, ↓reduceIte, reduceCtorEq, Int.reduceLT, Int.reduceLE, Int.reduceEq, Nat.reduceLT, Nat.reduceLeDiff, Nat.reduceEqDiff, Int.reduceNeg, eitherK, decide_true]))
  (first | (refine Rn.t ?hc ?_; case hc => simp (config := { implicitDefEqProofs := false, maxSteps := 2000000 }) (disch := omega) only [ps, ↓reduceIte, reduceCtorEq, Int.reduceLT, Int.reduceLE, Int.reduceEq, Nat.reduceLT, Nat.reduceLeDiff, Nat.reduceEqDiff, Int.reduceNeg, eitherK]) | (refine Rn.f ?hc ?_; case hc => simp (config := { implicitDefEqProofs := false, maxSteps := 2000000 }) (disch := omega) only [ps, ↓reduceIte, reduceCtorEq, Int.reduceLT, Int.reduceLE, Int.reduceEq, Nat.reduceLT, Nat.reduceLeDiff, Nat.reduceEqDiff, Int.reduceNeg, eitherK]))
  refine Rn.bind (whole1_ev a0 a1 ha) ?_
  (first | (refine Rn.t ?hc ?_; case hc => simp (config := { implicitDefEqProofs := false, maxSteps := 2000000 }) (disch := omega) only [ps, ↓reduceIte, reduceCtorEq, Int.reduceLT, Int.reduceLE, Int.reduceEq, Nat.reduceLT, Nat.reduceLeDiff, Nat.reduceEqDiff, Int.reduceNeg, eitherK]) | (refine Rn.f ?hc ?_; case hc => simp (config := { implicitDefEqProofs := false, maxSteps := 2000000 }) (disch := omega) only [ps, ↓reduceIte, reduceCtorEq, Int.reduceLT, Int.reduceLE, Int.reduceEq, Nat.reduceLT, Nat.reduceLeDiff, Nat.reduceEqDiff, Int.reduceNeg, eitherK]))
  refine Rn.bind (whole1_ev b0 b1 hb) ?_
  exact Rn.pure _
end Go.Proofs.Ytghdpmejgonjmaa.Am

/- The law LimbParts returns true for every input, and its arguments read as they did. -/
namespace Go.Proofs.Ytghdpmejgonjmaa.limbParts
open Go.ChangeShapes Go.WideShapes Go.ChangeAt Go.RowKit
open Go.Proofs.Ytghdpmejgonjmaa.Am
set_option linter.unusedVariables false
theorem own : ownKnob Try.prog.godebug = none := by kernel_rfl
theorem laidOut : laidOutB Try.prog = true := by kernel_rfl
set_option maxRecDepth 100000 in
theorem lifted (os : Os) (started : os.Started) (H : Type) (enc : TypeId × Value → H) :
    ReturnsInHanded {} Try.checked os 3 .any (Rows.limbPartsSpec.pre6 enc Try.prog Try.f3 Rows.limbPartsRow.domain false) (Rows.limbPartsSpec.post enc Try.prog Try.f3 false true false false) := by
  refine returnsInHanded_of_change_sized (C := Try.checked) own started (by kernel_rfl) Try.func3
    (ChangeSpec.witness6 (enc := enc) (C := Try.checked) false ⟨#[], #[.agg #[.bool false, .slice none 0 0], .agg #[.bool false, .slice none 0 0]], []⟩ 8 (by kernel_rfl) (by kernel_rfl) (by kernel_rfl) (by kernel_rfl)) ?_
  intro W base args ds gs before hval0 hW hcnd hsz0 _
  have hval : ∀ (j : Nat) t v, Try.f3.params[j]? = some t → args[j]? = some v → Value.okWide Try.prog W .any base t v := hval0
  have hW' := hW
  obtain ⟨p, q, hA0, hV, rfl, hfz, hnd⟩ := hW
  have hA : DataW.TrodAll enc Try.prog W 0 (fun _ => true) true Try.f3.params.toList args.toList ds p := hA0
  rw [Try.params3] at hA hval
  obtain ⟨v0, vs0, d0, ds0, p0, q0, hargs, rfl, rfl, h0, r0⟩ := trodAll_cons hA
  obtain ⟨v1, vs1, d1, ds1, p1, q1, rfl, rfl, rfl, h1, r1⟩ := trodAll_cons r0
  obtain ⟨rfl, rfl, rfl⟩ := trodAll_nil r1
  obtain rfl : args = #[v0, v1] := by cases args; simp_all
  obtain ⟨rfl, rfl⟩ := trodVars_none hV
  have lt0 : ∀ x ∈ p0, x.block < W.heap.size := by obtain ⟨m, hm⟩ := h0; exact DataW.trod_lt m _ _ _ hm
  obtain ⟨y0, rv0, nm0, wf0⟩ := open_cd (d := 9) (c := (.pr .bool (.sl (.int .u32)))) true (by kernel_rfl) (by kernel_rfl) (by kernel_rfl) (hval 0 24 v0 rfl rfl) h0
  have lt1 : ∀ x ∈ p1, x.block < W.heap.size := by obtain ⟨m, hm⟩ := h1; exact DataW.trod_lt m _ _ _ hm
  obtain ⟨y1, rv1, nm1, wf1⟩ := open_cd (d := 9) (c := (.pr .bool (.sl (.int .u32)))) true (by kernel_rfl) (by kernel_rfl) (by kernel_rfl) (hval 1 24 v1 rfl rfl) h1
  clear hA0 hval0 hsz0
  obtain ⟨k, hk⟩ := pure_LimbParts y0 y1 wf0 wf1
  refine (law_inst cfg_ok (okshuntlaw01_LimbParts k) (x := (y0.1, y0.2, y1.1, y1.2)) (y := true) hk rfl (args := [argV true (.pr .bool (.sl (.int .u32))) y0, argV true (.pr .bool (.sl (.int .u32))) y1]) rfl (rvs_cons rv0 (rvs_cons rv1 rvs_nil)) (names_cons nm0 (names_cons nm1 rfl))).mono fun e W' ⟨he, bel⟩ => ?_
  subst he
  exact ⟨_, rfl, _, _, _, [], _, [], hW', trodAll_mk1 (shut_bool Try.underlying4 _), (trodAll_cons_mk (Below.trod laidOut (by kernel_rfl) (of_decide_eq_true (by kernel_rfl)) h0 bel lt0) (trodAll_cons_mk (Below.trod laidOut (by kernel_rfl) (of_decide_eq_true (by kernel_rfl)) h1 bel lt1) trodAll_mk0)), rfl, bel.frame _, fun h => by cases h⟩
theorem over : Rows.limbPartsRow.holds Try.pinned (OpenSpec.ofChange Rows.limbPartsSpec) :=
  OpenClaim.holds_of_wide 3 Try.f3 rfl rfl rfl rfl rfl rfl rfl ⟨rfl, rfl, rfl, rfl, rfl⟩ rfl rfl rfl rfl rfl (by kernel_rfl) Try.func3 (by kernel_rfl)
    (of_decide_eq_true (by kernel_rfl)) (by unfold Func.isWrapper; first | (rw [if_pos (by decide +kernel)]; kernel_rfl) | (rw [if_neg (by decide +kernel)]; exact ⟨rfl, rfl⟩))
    (fun os started H enc _ => lifted os started H enc)
theorem proved : Rows.LimbPartsSaid := over
#print axioms proved
end Go.Proofs.Ytghdpmejgonjmaa.limbParts
namespace Go.Proofs.Ytghdpmejgonjmaa
/-- The row, under a short name, for the claim. -/
theorem limbParts_holds : Rows.LimbPartsSaid := limbParts.proved
end Go.Proofs.Ytghdpmejgonjmaa
