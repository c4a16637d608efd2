/- Plain reckoning: numbers as machine words of 64 bits. -/
import Derived.Test.YtghdpmejgonjmaaPlD3
import Derived.Test.YtghdpmejgonjmaaPlS
set_option linter.unusedVariables false
set_option linter.unusedSimpArgs false
set_option maxRecDepth 10000
namespace Go.Proofs.Ytghdpmejgonjmaa.Am
open Go

/-- A number as a machine number, or that it is none. -/
def in64 (z : Int) : Int × Int := if -9223372036854775808 ≤ z ∧ z ≤ 9223372036854775807 then (z, 0) else (0, 4)
theorem i64_loop (k : Nat) (z0 : Bool) (z1 : List Int) (hl : z1.length ≤ 2) (hd : Dg W z1) : ∀ (m n : Nat) (u : Int), m ≤ z1.length → m < n → u = V W (z1.drop m) → Lbig_Int_Int64_awf_0 k n u ((m : Int) - 1) z0 z1 = some (V W z1, z0, z1) := by
  intro m
  induction m with
  | zero =>
    intro n u hm hn hu
    obtain ⟨n, rfl⟩ : ∃ m, n = m + 1 := ⟨n - 1, by omega⟩
    show Lbig_Int_Int64_awf_0s k (Lbig_Int_Int64_awf_0 k n) _ _ _ _ = _
    unfold Lbig_Int_Int64_awf_0s
    rw [hu]
    simp (config := { implicitDefEqProofs := false, maxSteps := 2000000 }) (disch := omega) only [ps, ↓reduceIte, reduceCtorEq, Int.reduceLT, Int.reduceLE, Int.reduceEq, Nat.reduceLT, Nat.reduceLeDiff, Nat.reduceEqDiff, Int.reduceNeg, eitherK]
    rfl
  | succ i ih =>
    intro n u hm hn hu
    obtain ⟨n, rfl⟩ : ∃ m, n = m + 1 := ⟨n - 1, by omega⟩
    obtain ⟨x, hx⟩ := get_of (show i < z1.length by omega)
    have hxb := hd.get hx
    have h1 : (((i + 1 : Nat) : Int) - 1) = (i : Int) := by omega
    have hub : 0 ≤ u ∧ u < 4294967296 := by
      have a1 := V_nonneg (B := W) (by decide) (hd.drop (i + 1))
      have a2 := V_lt (B := W) (by decide) (hd.drop (i + 1))
      have a3 := pow_mono (B := W) (by decide) (show (z1.drop (i + 1)).length ≤ 1 by rw [List.length_drop]; omega)
      rw [← hu] at a1 a2
      have a4 : W ^ 1 = 4294967296 := by decide
      omega
    unfold W at hxb
    have e0 : IntKind.u64.wrap (u * 4294967296) = u * 4294967296 := wrap_u64_id (by omega)
    have e2 : IntKind.u64.wrap x = x := wrap_u64_id (by omega)
    have e1 := or_add (x := u) (y := x) (by omega) (by omega)
    have e3 : IntKind.u64.wrap (u * 4294967296 + x) = u * 4294967296 + x := wrap_u64_id (by omega)
    have key := ih n (u * 4294967296 + x) (by omega) (by omega) (by rw [V_drop hx, ← hu]; unfold W; omega)
    show Lbig_Int_Int64_awf_0s k (Lbig_Int_Int64_awf_0 k n) _ _ _ _ = _
    unfold Lbig_Int_Int64_awf_0s
    simp (config := { implicitDefEqProofs := false, maxSteps := 2000000 }) (disch := omega) only [ps, ↓reduceIte, reduceCtorEq, Int.reduceLT, Int.reduceLE, Int.reduceEq, Nat.reduceLT, Nat.reduceLeDiff, Nat.reduceEqDiff, Int.reduceNeg, eitherK, hx, h1, e0, e2, e1, e3, key]
theorem wrap_i64' (x : Int) : IntKind.i64.wrap x = (x + 9223372036854775808) % 18446744073709551616 - 9223372036854775808 := by
  simp only [IntKind.wrap, IntKind.bits, IntKind.signed]
  simp
  omega
theorem limbInt64_no {a0 : Bool} {a1 : List Int} (la : a1.length ≤ 9223372036854775807) (da : Dg W a1) (h : ¬ Ri a0 a1) : Rn (fun k => Flimb_Int64 k a0 a1) (0, 10) := by
  refine Rn.up (f := fun k => Flimb_Int64 k a0 a1) ?_
  show Rn (fun k => blimb_Int64 k a0 a1) _
  unfold blimb_Int64
  refine Rn.bind (check_ev a0 a1 la da) ?_
  rw [if_neg h]
  (first | (refine Rn.t ?hc ?_; case hc => simp (config := { implicitDefEqProofs := false, maxSteps := 2000000 }) (disch := omega) only [ps, ↓reduceIte, reduceCtorEq, Int.reduceLT, Int.reduceLE, Int.reduceEq, Nat.reduceLT, Nat.reduceLeDiff, Nat.reduceEqDiff, Int.reduceNeg, eitherK]) | (refine Rn.f ?hc ?_; case hc => simp (config := { implicitDefEqProofs := false, maxSteps := 2000000 }) (disch := omega) only [ps, ↓reduceIte, reduceCtorEq, Int.reduceLT, Int.reduceLE, Int.reduceEq, Nat.reduceLT, Nat.reduceLeDiff, Nat.reduceEqDiff, Int.reduceNeg, eitherK]))
  exact Rn.pure _
theorem limbInt64_ev {a0 : Bool} {a1 : List Int} (da : Dg W a1) (h : Ri a0 a1) : Rn (fun k => Flimb_Int64 k a0 a1) (in64 (Zv W a0 a1)) := by
  have k1 := h.1
  have hn := h.nm da
  have hab := hn.abs (B := W) (by decide)
  have hng := hn.neg (B := W) (by decide)
  have p0 := V_nonneg (B := W) (by decide) da
  have hzz := hn.z
  generalize hz : Zv W a0 a1 = z at *
  refine Rn.up (f := fun k => Flimb_Int64 k a0 a1) ?_
  show Rn (fun k => blimb_Int64 k a0 a1) _
  unfold blimb_Int64
  refine Rn.bind (check_ev a0 a1 (by omega) da) ?_
  rw [if_pos h]
  (first | (refine Rn.t ?hc ?_; case hc => simp (config := { implicitDefEqProofs := false, maxSteps := 2000000 }) (disch := omega) only [ps, ↓reduceIte, reduceCtorEq, Int.reduceLT, Int.reduceLE, Int.reduceEq, Nat.reduceLT, Nat.reduceLeDiff, Nat.reduceEqDiff, Int.reduceNeg, eitherK]) | (refine Rn.f ?hc ?_; case hc => simp (config := { implicitDefEqProofs := false, maxSteps := 2000000 }) (disch := omega) only [ps, ↓reduceIte, reduceCtorEq, Int.reduceLT, Int.reduceLE, Int.reduceEq, Nat.reduceLT, Nat.reduceLeDiff, Nat.reduceEqDiff, Int.reduceNeg, eitherK]))
  refine Rn.bind (Take_ri h) ?_
  by_cases h2 : a1.length ≤ 2
  · have hb : V W a1 < 18446744073709551616 := by
      have a2 := V_lt (B := W) (by decide) da
      have a3 := pow_mono (B := W) (by decide) h2
      have a4 : W ^ 2 = 18446744073709551616 := by decide
      omega
    have hr : Rn (fun k => Fbig_Int_Int64_awf k a0 a1) (if a0 then (IntKind.i64.wrap (0 - IntKind.i64.wrap (V W a1)), decide (V W a1 ≤ 9223372036854775808), a0, a1) else (IntKind.i64.wrap (V W a1), decide (V W a1 < 9223372036854775808), a0, a1)) := by
      refine Rn.up (f := fun k => Fbig_Int_Int64_awf k a0 a1) (Rn.eq (a1.length + 1) fun k hk => ?_)
      show bbig_Int_Int64_awf k a0 a1 = _
      unfold bbig_Int_Int64_awf
      have hl := i64_loop k a0 a1 h2 da a1.length k 0 (Nat.le_refl _) (by omega) (by rw [List.drop_length]; rfl)
      cases a0
      · simp (config := { implicitDefEqProofs := false, maxSteps := 2000000 }) (disch := omega) only [ps, ↓reduceIte, reduceCtorEq, Int.reduceLT, Int.reduceLE, Int.reduceEq, Nat.reduceLT, Nat.reduceLeDiff, Nat.reduceEqDiff, Int.reduceNeg, eitherK, hl]
      · simp (config := { implicitDefEqProofs := false, maxSteps := 2000000 }) (disch := omega) only [ps, ↓reduceIte, reduceCtorEq, Int.reduceLT, Int.reduceLE, Int.reduceEq, Nat.reduceLT, Nat.reduceLeDiff, Nat.reduceEqDiff, Int.reduceNeg, eitherK, hl]
    refine Rn.bind hr ?_
    unfold in64
    cases a0
    · simp only [Bool.false_eq_true, if_false] at hzz ⊢
      by_cases hok : z ≤ 9223372036854775807
      · (first | (refine Rn.t ?hc ?_; case hc => simp (config := { implicitDefEqProofs := false, maxSteps := 2000000 }) (disch := omega) only [ps, ↓reduceIte, reduceCtorEq, Int.reduceLT, Int.reduceLE, Int.reduceEq, Nat.reduceLT, Nat.reduceLeDiff, Nat.reduceEqDiff, Int.reduceNeg, eitherK, decide_true]) | (refine Rn.f ?hc ?_; case hc => simp (config := { implicitDefEqProofs := false, maxSteps := 2000000 }) (disch := omega) only [ps, ↓reduceIte, reduceCtorEq, Int.reduceLT, Int.reduceLE, Int.reduceEq, Nat.reduceLT, Nat.reduceLeDiff, Nat.reduceEqDiff, Int.reduceNeg, eitherK, decide_true]))
        rw [if_pos (by omega), hzz, wrap_i64 (by omega)]
        exact Rn.pure _
      · (first | (refine Rn.t ?hc ?_; case hc => simp (config := { implicitDefEqProofs := false, maxSteps := 2000000 }) (disch := omega) only [ps, ↓reduceIte, reduceCtorEq, Int.reduceLT, Int.reduceLE, Int.reduceEq, Nat.reduceLT, Nat.reduceLeDiff, Nat.reduceEqDiff, Int.reduceNeg, eitherK, decide_false]) | (refine Rn.f ?hc ?_; case hc => simp (config := { implicitDefEqProofs := false, maxSteps := 2000000 }) (disch := omega) only [ps, ↓reduceIte, reduceCtorEq, Int.reduceLT, Int.reduceLE, Int.reduceEq, Nat.reduceLT, Nat.reduceLeDiff, Nat.reduceEqDiff, Int.reduceNeg, eitherK, decide_false]))
        rw [if_neg (by omega)]
        exact Rn.pure _
    · simp only [if_true] at hzz ⊢
      by_cases hok : -9223372036854775808 ≤ z
      · (first | (refine Rn.t ?hc ?_; case hc => simp (config := { implicitDefEqProofs := false, maxSteps := 2000000 }) (disch := omega) only [ps, ↓reduceIte, reduceCtorEq, Int.reduceLT, Int.reduceLE, Int.reduceEq, Nat.reduceLT, Nat.reduceLeDiff, Nat.reduceEqDiff, Int.reduceNeg, eitherK, decide_true]) | (refine Rn.f ?hc ?_; case hc => simp (config := { implicitDefEqProofs := false, maxSteps := 2000000 }) (disch := omega) only [ps, ↓reduceIte, reduceCtorEq, Int.reduceLT, Int.reduceLE, Int.reduceEq, Nat.reduceLT, Nat.reduceLeDiff, Nat.reduceEqDiff, Int.reduceNeg, eitherK, decide_true]))
        have e : IntKind.i64.wrap (0 - IntKind.i64.wrap (V W a1)) = z := by rw [wrap_i64', wrap_i64']; omega
        rw [if_pos (by omega), e]
        exact Rn.pure _
      · (first | (refine Rn.t ?hc ?_; case hc => simp (config := { implicitDefEqProofs := false, maxSteps := 2000000 }) (disch := omega) only [ps, ↓reduceIte, reduceCtorEq, Int.reduceLT, Int.reduceLE, Int.reduceEq, Nat.reduceLT, Nat.reduceLeDiff, Nat.reduceEqDiff, Int.reduceNeg, eitherK, decide_false]) | (refine Rn.f ?hc ?_; case hc => simp (config := { implicitDefEqProofs := false, maxSteps := 2000000 }) (disch := omega) only [ps, ↓reduceIte, reduceCtorEq, Int.reduceLT, Int.reduceLE, Int.reduceEq, Nat.reduceLT, Nat.reduceLeDiff, Nat.reduceEqDiff, Int.reduceNeg, eitherK, decide_false]))
        rw [if_neg (by omega)]
        exact Rn.pure _
  · have hbig : 18446744073709551616 ≤ V W a1 := by
      have a2 := hn.c.ge (B := W) (by decide) (by rintro rfl; simp at h2)
      have a3 := pow_mono (B := W) (by decide) (show 2 ≤ a1.length - 1 by omega)
      have a4 : W ^ 2 = 18446744073709551616 := by decide
      omega
    have hr : Rn (fun k => Fbig_Int_Int64_awf k a0 a1) (0, false, a0, a1) := by
      refine Rn.up (f := fun k => Fbig_Int_Int64_awf k a0 a1) ?_
      show Rn (fun k => bbig_Int_Int64_awf k a0 a1) _
      unfold bbig_Int_Int64_awf
      (first | (refine Rn.t ?hc ?_; case hc => simp (config := { implicitDefEqProofs := false, maxSteps := 2000000 }) (disch := omega) only [ps, ↓reduceIte, reduceCtorEq, Int.reduceLT, Int.reduceLE, Int.reduceEq, Nat.reduceLT, Nat.reduceLeDiff, Nat.reduceEqDiff, Int.reduceNeg, eitherK]) | (refine Rn.f ?hc ?_; case hc => simp (config := { implicitDefEqProofs := false, maxSteps := 2000000 }) (disch := omega) only [ps, ↓reduceIte, reduceCtorEq, Int.reduceLT, Int.reduceLE, Int.reduceEq, Nat.reduceLT, Nat.reduceLeDiff, Nat.reduceEqDiff, Int.reduceNeg, eitherK]))
      exact Rn.pure _
    refine Rn.bind hr ?_
    (first | (refine Rn.t ?hc ?_; case hc => simp (config := { implicitDefEqProofs := false, maxSteps := 2000000 }) (disch := omega) only [ps, ↓reduceIte, reduceCtorEq, Int.reduceLT, Int.reduceLE, Int.reduceEq, Nat.reduceLT, Nat.reduceLeDiff, Nat.reduceEqDiff, Int.reduceNeg, eitherK]) | (refine Rn.f ?hc ?_; case hc => simp (config := { implicitDefEqProofs := false, maxSteps := 2000000 }) (disch := omega) only [ps, ↓reduceIte, reduceCtorEq, Int.reduceLT, Int.reduceLE, Int.reduceEq, Nat.reduceLT, Nat.reduceLeDiff, Nat.reduceEqDiff, Int.reduceNeg, eitherK]))
    unfold in64
    rw [if_neg (by omega)]
    exact Rn.pure _
theorem rw_loop (k : Nat) (a0 : Bool) (a1 : List Int) (hl : a1.length ≤ 1000) (hd : Dg U a1) (hb : V U a1 ≤ 9223372036854775808) : ∀ (m n : Nat) (u : Int), m ≤ a1.length → m < n → u = V U (a1.drop m) → Lshuntref01_Whole_0 k n u ((m : Int) - 1) a0 a1 = some (V U a1, a0, a1) := by
  intro m
  induction m with
  | zero =>
    intro n u hm hn hu
    obtain ⟨n, rfl⟩ : ∃ m, n = m + 1 := ⟨n - 1, by omega⟩
    show Lshuntref01_Whole_0s k (Lshuntref01_Whole_0 k n) _ _ _ _ = _
    unfold Lshuntref01_Whole_0s
    rw [hu]
    simp (config := { implicitDefEqProofs := false, maxSteps := 2000000 }) (disch := omega) only [ps, ↓reduceIte, reduceCtorEq, Int.reduceLT, Int.reduceLE, Int.reduceEq, Nat.reduceLT, Nat.reduceLeDiff, Nat.reduceEqDiff, Int.reduceNeg, eitherK]
    rfl
  | succ i ih =>
    intro n u hm hn hu
    obtain ⟨n, rfl⟩ : ∃ m, n = m + 1 := ⟨n - 1, by omega⟩
    obtain ⟨x, hx⟩ := get_of (show i < a1.length by omega)
    have hxb := hd.get hx
    have h1 : (((i + 1 : Nat) : Int) - 1) = (i : Int) := by omega
    have hs := V_split (B := U) a1 i (by omega)
    have p1 := V_nonneg (B := U) (by decide) (hd.take i)
    have p2 := V_nonneg (B := U) (by decide) (hd.drop i)
    have p3 := V_nonneg (B := U) (by decide) (hd.drop (i + 1))
    have p4 : V U (a1.drop i) ≤ V U a1 := by
      have h5 : 1 * V U (a1.drop i) ≤ U ^ i * V U (a1.drop i) := Int.mul_le_mul_of_nonneg_right (by have := Upos i; omega) p2
      omega
    rw [V_drop hx, ← hu] at p4 p2
    rw [← hu] at p3
    have p5 : x + U * u ≤ 9223372036854775808 := by omega
    unfold U at hxb p5
    have e0 : IntKind.u64.wrap (u * 65536) = u * 65536 := wrap_u64_id (by omega)
    have e2 : IntKind.u64.wrap x = x := wrap_u64_id (by omega)
    have e3 : IntKind.u64.wrap (u * 65536 + x) = u * 65536 + x := wrap_u64_id (by omega)
    have key := ih n (u * 65536 + x) (by omega) (by omega) (by rw [V_drop hx, ← hu]; unfold U; omega)
    show Lshuntref01_Whole_0s k (Lshuntref01_Whole_0 k n) _ _ _ _ = _
    unfold Lshuntref01_Whole_0s
    simp (config := { implicitDefEqProofs := false, maxSteps := 2000000 }) (disch := omega) only [ps, ↓reduceIte, reduceCtorEq, Int.reduceLT, Int.reduceLE, Int.reduceEq, Nat.reduceLT, Nat.reduceLeDiff, Nat.reduceEqDiff, Int.reduceNeg, eitherK, hx, h1, e0, e2, e3, key]
theorem rWhole_ev (a0 : Bool) (a1 : List Int) (hl : a1.length ≤ 1000) {z : Int} (hn : Nm U a0 a1 z) :
    Rn (fun k => Fshuntref01_Whole k a0 a1) (if -9223372036854775808 ≤ z ∧ z ≤ 9223372036854775807 then (z, true) else (0, false)) := by
  have p0 := V_nonneg (B := U) (by decide) hn.c.1
  have hzz := hn.z
  obtain ⟨l1, h1, h2, h3⟩ := rWide_ev (-9223372036854775808) (by decide)
  obtain ⟨l2, g1, g2, g3⟩ := rWide_ev 9223372036854775807 (by decide)
  have e1 := Held_ev a0 _ a1 l1 hn h2 (by omega) (by omega)
  have e2 := Held_ev a0 _ a1 l2 hn g2 (by omega) (by omega)
  obtain ⟨c1, w1, f1⟩ := cmpZ_cases z (-9223372036854775808)
  obtain ⟨c2, w2, f2⟩ := cmpZ_cases z 9223372036854775807
  rw [w1] at e1
  rw [w2] at e2
  refine Rn.up (f := fun k => Fshuntref01_Whole k a0 a1) ?_
  show Rn (fun k => bshuntref01_Whole k a0 a1) _
  unfold bshuntref01_Whole
  refine Rn.bind h1 (Rn.bind e1 ?_)
  by_cases hlo : -9223372036854775808 ≤ z
  · (first | (refine Rn.t ?hc ?_; case hc => simp (config := { implicitDefEqProofs := false, maxSteps := 2000000 }) (disch := omega) only [ps, ↓reduceIte, reduceCtorEq, Int.reduceLT, Int.reduceLE, Int.reduceEq, Nat.reduceLT, Nat.reduceLeDiff, Nat.reduceEqDiff, Int.reduceNeg, eitherK]) | (refine Rn.f ?hc ?_; case hc => simp (config := { implicitDefEqProofs := false, maxSteps := 2000000 }) (disch := omega) only [ps, ↓reduceIte, reduceCtorEq, Int.reduceLT, Int.reduceLE, Int.reduceEq, Nat.reduceLT, Nat.reduceLeDiff, Nat.reduceEqDiff, Int.reduceNeg, eitherK]))
    refine Rn.bind g1 (Rn.bind e2 ?_)
    by_cases hhi : z ≤ 9223372036854775807
    · (first | (refine Rn.t ?hc ?_; case hc => simp (config := { implicitDefEqProofs := false, maxSteps := 2000000 }) (disch := omega) only [ps, ↓reduceIte, reduceCtorEq, Int.reduceLT, Int.reduceLE, Int.reduceEq, Nat.reduceLT, Nat.reduceLeDiff, Nat.reduceEqDiff, Int.reduceNeg, eitherK]) | (refine Rn.f ?hc ?_; case hc => simp (config := { implicitDefEqProofs := false, maxSteps := 2000000 }) (disch := omega) only [ps, ↓reduceIte, reduceCtorEq, Int.reduceLT, Int.reduceLE, Int.reduceEq, Nat.reduceLT, Nat.reduceLeDiff, Nat.reduceEqDiff, Int.reduceNeg, eitherK]))
      rw [if_pos ⟨hlo, hhi⟩]
      have hb : V U a1 ≤ 9223372036854775808 := by cases a0 <;> simp at hzz <;> omega
      have hr : Rn (fun k => Lshuntref01_Whole_0 k k 0 (IntKind.i64.wrap ((a1.length : Int) - 1)) a0 a1) (V U a1, a0, a1) := by
        refine Rn.eq (a1.length + 1) fun k hk => ?_
        rw [wrap_i64 (by omega)]
        exact rw_loop k a0 a1 hl hn.c.1 hb a1.length k 0 (Nat.le_refl _) (by omega) (by rw [List.drop_length]; rfl)
      refine Rn.bind hr ?_
      cases a0
      · simp only [Bool.false_eq_true, if_false] at hzz ⊢
        rw [wrap_i64 (by omega), hzz]
        exact Rn.pure _
      · simp only [if_true] at hzz ⊢
        have e : IntKind.i64.wrap (IntKind.u64.wrap (0 - V U a1)) = z := by rw [wrap_i64', wrap_u64]; omega
        rw [e]
        exact Rn.pure _
    · (first | (refine Rn.t ?hc ?_; case hc => simp (config := { implicitDefEqProofs := false, maxSteps := 2000000 }) (disch := omega) only [ps, ↓reduceIte, reduceCtorEq, Int.reduceLT, Int.reduceLE, Int.reduceEq, Nat.reduceLT, Nat.reduceLeDiff, Nat.reduceEqDiff, Int.reduceNeg, eitherK]) | (refine Rn.f ?hc ?_; case hc => simp (config := { implicitDefEqProofs := false, maxSteps := 2000000 }) (disch := omega) only [ps, ↓reduceIte, reduceCtorEq, Int.reduceLT, Int.reduceLE, Int.reduceEq, Nat.reduceLT, Nat.reduceLeDiff, Nat.reduceEqDiff, Int.reduceNeg, eitherK]))
      rw [if_neg (by omega)]
      exact Rn.pure _
  · (first | (refine Rn.t ?hc ?_; case hc => simp (config := { implicitDefEqProofs := false, maxSteps := 2000000 }) (disch := omega) only [ps, ↓reduceIte, reduceCtorEq, Int.reduceLT, Int.reduceLE, Int.reduceEq, Nat.reduceLT, Nat.reduceLeDiff, Nat.reduceEqDiff, Int.reduceNeg, eitherK]) | (refine Rn.f ?hc ?_; case hc => simp (config := { implicitDefEqProofs := false, maxSteps := 2000000 }) (disch := omega) only [ps, ↓reduceIte, reduceCtorEq, Int.reduceLT, Int.reduceLE, Int.reduceEq, Nat.reduceLT, Nat.reduceLeDiff, Nat.reduceEqDiff, Int.reduceNeg, eitherK]))
    rw [if_neg (by omega)]
    exact Rn.pure _
theorem rInt64_no {a0 : Bool} {a1 : List Int} (la : a1.length ≤ 9223372036854775807) (da : Dg W a1) (h : ¬ Ri a0 a1) : Rn (fun k => Fshuntref01_Int64 k a0 a1) (0, 10) := by
  refine Rn.up (f := fun k => Fshuntref01_Int64 k a0 a1) ?_
  show Rn (fun k => bshuntref01_Int64 k a0 a1) _
  unfold bshuntref01_Int64
  refine Rn.bind (right_ev a0 a1 la da) ?_
  (first | (refine Rn.t ?hc ?_; case hc => simp (config := { implicitDefEqProofs := false, maxSteps := 2000000 }) (disch := omega) only [ps, ↓reduceIte, reduceCtorEq, Int.reduceLT, Int.reduceLE, Int.reduceEq, Nat.reduceLT, Nat.reduceLeDiff, Nat.reduceEqDiff, Int.reduceNeg, eitherK, h, decide_false]) | (refine Rn.f ?hc ?_; case hc => simp (config := { implicitDefEqProofs := false, maxSteps := 2000000 }) (disch := omega) only [ps, ↓reduceIte, reduceCtorEq, Int.reduceLT, Int.reduceLE, Int.reduceEq, Nat.reduceLT, Nat.reduceLeDiff, Nat.reduceEqDiff, Int.reduceNeg, eitherK, h, decide_false]))
  exact Rn.pure _
theorem rInt64_ev {a0 : Bool} {a1 : List Int} (da : Dg W a1) (h : Ri a0 a1) : Rn (fun k => Fshuntref01_Int64 k a0 a1) (in64 (Zv W a0 a1)) := by
  have k1 := h.1
  obtain ⟨l, p1, p2, p3⟩ := rTake_ev a0 a1 (by omega) (h.nm da)
  have hw := rWhole_ev a0 l (by omega) p2
  refine Rn.up (f := fun k => Fshuntref01_Int64 k a0 a1) ?_
  show Rn (fun k => bshuntref01_Int64 k a0 a1) _
  unfold bshuntref01_Int64
  refine Rn.bind (right_ev a0 a1 (by omega) da) ?_
  (first | (refine Rn.t ?hc ?_; case hc => simp (config := { implicitDefEqProofs := false, maxSteps := 2000000 }) (disch := omega) only [ps, ↓reduceIte, reduceCtorEq, Int.reduceLT, Int.reduceLE, Int.reduceEq, Nat.reduceLT, Nat.reduceLeDiff, Nat.reduceEqDiff, Int.reduceNeg, eitherK, h, decide_true]) | (refine Rn.f ?hc ?_; case hc => simp (config := { implicitDefEqProofs := false, maxSteps := 2000000 }) (disch := omega) only [ps, ↓reduceIte, reduceCtorEq, Int.reduceLT, Int.reduceLE, Int.reduceEq, Nat.reduceLT, Nat.reduceLeDiff, Nat.reduceEqDiff, Int.reduceNeg, eitherK, h, decide_true]))
  refine Rn.bind p1 (Rn.bind hw ?_)
  unfold in64
  by_cases hok : -9223372036854775808 ≤ Zv W a0 a1 ∧ Zv W a0 a1 ≤ 9223372036854775807
  · rw [if_pos hok, if_pos hok]
    (first | (refine Rn.t ?hc ?_; case hc => simp (config := { implicitDefEqProofs := false, maxSteps := 2000000 }) (disch := omega) only [ps, ↓reduceIte, reduceCtorEq, Int.reduceLT, Int.reduceLE, Int.reduceEq, Nat.reduceLT, Nat.reduceLeDiff, Nat.reduceEqDiff, Int.reduceNeg, eitherK]) | (refine Rn.f ?hc ?_; case hc => simp (config := { implicitDefEqProofs := false, maxSteps := 2000000 }) (disch := omega) only [ps, ↓reduceIte, reduceCtorEq, Int.reduceLT, Int.reduceLE, Int.reduceEq, Nat.reduceLT, Nat.reduceLeDiff, Nat.reduceEqDiff, Int.reduceNeg, eitherK]))
    exact Rn.pure _
  · rw [if_neg hok, if_neg hok]
    (first | (refine Rn.t ?hc ?_; case hc => simp (config := { implicitDefEqProofs := false, maxSteps := 2000000 }) (disch := omega) only [ps, ↓reduceIte, reduceCtorEq, Int.reduceLT, Int.reduceLE, Int.reduceEq, Nat.reduceLT, Nat.reduceLeDiff, Nat.reduceEqDiff, Int.reduceNeg, eitherK]) | (refine Rn.f ?hc ?_; case hc => simp (config := { implicitDefEqProofs := false, maxSteps := 2000000 }) (disch := omega) only [ps, ↓reduceIte, reduceCtorEq, Int.reduceLT, Int.reduceLE, Int.reduceEq, Nat.reduceLT, Nat.reduceLeDiff, Nat.reduceEqDiff, Int.reduceNeg, eitherK]))
    exact Rn.pure _
theorem Fits_ev (a0 : Bool) (a1 : List Int) (n : Int) (la : a1.length ≤ 9223372036854775807) (da : Dg W a1) : Rn (fun k => Flimb_Fits k a0 a1 n) (decide (Ri a0 a1) && decide ((a1.length : Int) ≤ n)) := by
  refine Rn.up (f := fun k => Flimb_Fits k a0 a1 n) ?_
  show Rn (fun k => blimb_Fits k a0 a1 n) _
  unfold blimb_Fits
  refine Rn.bind (check_ev a0 a1 la da) ?_
  by_cases h : Ri a0 a1
  · simp only [h, if_true, decide_true, Bool.true_and]
    (first | (refine Rn.t ?hc ?_; case hc => simp (config := { implicitDefEqProofs := false, maxSteps := 2000000 }) (disch := omega) only [ps, ↓reduceIte, reduceCtorEq, Int.reduceLT, Int.reduceLE, Int.reduceEq, Nat.reduceLT, Nat.reduceLeDiff, Nat.reduceEqDiff, Int.reduceNeg, eitherK]) | (refine Rn.f ?hc ?_; case hc => simp (config := { implicitDefEqProofs := false, maxSteps := 2000000 }) (disch := omega) only [ps, ↓reduceIte, reduceCtorEq, Int.reduceLT, Int.reduceLE, Int.reduceEq, Nat.reduceLT, Nat.reduceLeDiff, Nat.reduceEqDiff, Int.reduceNeg, eitherK]))
    exact Rn.pure _
  · simp only [h, if_false, decide_false, Bool.false_and]
    (first | (refine Rn.t ?hc ?_; case hc => simp (config := { implicitDefEqProofs := false, maxSteps := 2000000 }) (disch := omega) only [ps, ↓reduceIte, reduceCtorEq, Int.reduceLT, Int.reduceLE, Int.reduceEq, Nat.reduceLT, Nat.reduceLeDiff, Nat.reduceEqDiff, Int.reduceNeg, eitherK]) | (refine Rn.f ?hc ?_; case hc => simp (config := { implicitDefEqProofs := false, maxSteps := 2000000 }) (disch := omega) only [ps, ↓reduceIte, reduceCtorEq, Int.reduceLT, Int.reduceLE, Int.reduceEq, Nat.reduceLT, Nat.reduceLeDiff, Nat.reduceEqDiff, Int.reduceNeg, eitherK]))
    exact Rn.pure _
end Go.Proofs.Ytghdpmejgonjmaa.Am
