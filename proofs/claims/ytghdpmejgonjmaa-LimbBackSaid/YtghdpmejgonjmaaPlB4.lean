/- Plain reckoning: products. -/
import Derived.Test.YtghdpmejgonjmaaPlB3
set_option linter.unusedVariables false
set_option linter.unusedSimpArgs false
set_option maxRecDepth 10000
namespace Go.Proofs.Ytghdpmejgonjmaa.Am
open Go

theorem V_set {B : Int} : ∀ {l : List Int} {p : Nat} {o : Int} (v : Int), l[p]? = some o → V B (l.set p v) = V B l + B ^ p * (v - o) := by
  intro l
  induction l with
  | nil => intro p o v h; simp at h
  | cons x l ih =>
    intro p o v h
    cases p with
    | zero => simp at h; subst h; simp [V]; omega
    | succ p =>
      simp only [List.getElem?_cons_succ] at h
      simp only [List.set_cons_succ, V, ih v h, Int.pow_succ]
      grind
theorem mul_bd {x y : Int} (hx : 0 ≤ x ∧ x < 4294967296) (hy : 0 ≤ y ∧ y < 4294967296) : 0 ≤ x * y ∧ x * y ≤ 18446744065119617025 := by
  refine ⟨Int.mul_nonneg hx.1 hy.1, ?_⟩
  have h1 : x * y ≤ 4294967295 * y := Int.mul_le_mul_of_nonneg_right (by omega) hy.1
  omega

theorem mul_inner (k : Nat) (x y1 x11 : List Int) (x1 x2 : Int) (z x0 y0 : Bool) (hy : Dg W y1) (i : Nat) (a : Int) (ha : 0 ≤ a ∧ a < W) (n12 : Nat) (hn12 : n12 ≤ 2000000000) (hi : i + y1.length < n12) :
    ∀ (d j n : Nat) (carry : Int) (outs : List Int), j + d = y1.length → d < n → 0 ≤ carry ∧ carry < W → outs.length = n12 → Dg W outs →
    ∃ carry' outs', Lbig_Int_Mul_gsh_2 k n n12 i a carry x x1 x2 y1 y1.length j z x0 x11 y0 y1 outs = some (n12, (i : Int), carry', x, x1, x2, z, x0, x11, y0, y1, outs') ∧ (0 ≤ carry' ∧ carry' < W) ∧ outs'.length = n12 ∧ Dg W outs' ∧
      V W outs' + carry' * W ^ (i + y1.length) = V W outs + carry * W ^ (i + j) + a * W ^ (i + j) * V W (y1.drop j) ∧ ∀ p, i + y1.length ≤ p → outs'[p]? = outs[p]? := by
  intro d
  induction d with
  | zero =>
    intro j n carry outs hj hn hc hl hd
    obtain ⟨n, rfl⟩ : ∃ m, n = m + 1 := ⟨n - 1, by omega⟩
    have : j = y1.length := by omega
    subst this
    refine ⟨carry, outs, ?_, hc, hl, hd, ?_, fun p _ => rfl⟩
    · show Lbig_Int_Mul_gsh_2s k (Lbig_Int_Mul_gsh_2 k n) _ _ _ _ _ _ _ _ _ _ _ _ _ _ _ _ = _
      unfold Lbig_Int_Mul_gsh_2s
      simp (config := { implicitDefEqProofs := false, maxSteps := 2000000 }) (disch := omega) only [ps, ↓reduceIte, reduceCtorEq, Int.reduceLT, Int.reduceLE, Int.reduceEq, Nat.reduceLT, Nat.reduceLeDiff, Nat.reduceEqDiff, Int.reduceNeg, eitherK]
    · rw [List.drop_length]; simp [V]
  | succ d ih =>
    intro j n carry outs hj hn hc hl hd
    obtain ⟨n, rfl⟩ : ∃ m, n = m + 1 := ⟨n - 1, by omega⟩
    obtain ⟨b, hb⟩ := get_of (show j < y1.length by omega)
    obtain ⟨o, ho⟩ := get_of (show i + j < outs.length by omega)
    have hbb := hy.get hb
    have hob := hd.get ho
    have h1 : ((j : Int) + 1) = ((j + 1 : Nat) : Int) := rfl
    have h2 : ((i : Int) + (j : Int)) = ((i + j : Nat) : Int) := rfl
    unfold W at ha hbb hob hc
    have hm := mul_bd ha hbb
    have hdm := Int.emod_add_mul_ediv (a * b + o + carry) W
    obtain ⟨c', o', q1, q2, q3, q4, q5, q6⟩ := ih (j + 1) n ((a * b + o + carry) / W) (outs.set (i + j) ((a * b + o + carry) % W)) (by omega) (by omega) (by unfold W; omega) (by simpa using hl) (hd.set _ (by unfold W; omega))
    refine ⟨c', o', ?_, q2, q3, q4, ?_, fun p hp => ?_⟩
    · rw [← q1]
      show Lbig_Int_Mul_gsh_2s k (Lbig_Int_Mul_gsh_2 k n) _ _ _ _ _ _ _ _ _ _ _ _ _ _ _ _ = _
      unfold Lbig_Int_Mul_gsh_2s
      simp (config := { implicitDefEqProofs := false, maxSteps := 2000000 }) (disch := omega) only [ps, ↓reduceIte, reduceCtorEq, Int.reduceLT, Int.reduceLE, Int.reduceEq, Nat.reduceLT, Nat.reduceLeDiff, Nat.reduceEqDiff, Int.reduceNeg, eitherK, hb, h1, h2, ho, fdiv_pos, wrap_u32]
    · rw [q5, V_set _ ho, V_drop hb, ← Nat.add_assoc, Int.pow_succ]
      grind
    · rw [q6 p hp, List.getElem?_set_ne (by omega)]
theorem mul_outer (k : Nat) (x1 y1 : List Int) (z x0 y0 : Bool) (hx : Dg W x1) (hy : Dg W y1) (hlx : x1.length ≤ 1000000000) (hly : y1.length ≤ 1000000000) (hk : y1.length < k) :
    ∀ (d i n : Nat) (outs : List Int), i + d = x1.length → d < n → outs.length = x1.length + y1.length → Dg W outs → V W outs = V W (x1.take i) * V W y1 → (∀ p, i + y1.length ≤ p → p < outs.length → outs[p]? = some 0) →
    ∃ outs', Lbig_Int_Mul_gsh_0 k n (x1.length + y1.length) x1 x1.length i z x0 x1 y0 y1 outs = some (x1.length + y1.length, z, x0, x1, y0, y1, outs') ∧ outs'.length = x1.length + y1.length ∧ Dg W outs' ∧ V W outs' = V W x1 * V W y1 := by
  intro d
  induction d with
  | zero =>
    intro i n outs hi hn hl hd e h0
    obtain ⟨n, rfl⟩ : ∃ m, n = m + 1 := ⟨n - 1, by omega⟩
    have : i = x1.length := by omega
    subst this
    refine ⟨outs, ?_, hl, hd, by rw [e, List.take_length]⟩
    show Lbig_Int_Mul_gsh_0s k (Lbig_Int_Mul_gsh_0 k n) _ _ _ _ _ _ _ _ _ _ = _
    unfold Lbig_Int_Mul_gsh_0s
    simp (config := { implicitDefEqProofs := false, maxSteps := 2000000 }) (disch := omega) only [ps, ↓reduceIte, reduceCtorEq, Int.reduceLT, Int.reduceLE, Int.reduceEq, Nat.reduceLT, Nat.reduceLeDiff, Nat.reduceEqDiff, Int.reduceNeg, eitherK]
  | succ d ih =>
    intro i n outs hi hn hl hd e h0
    obtain ⟨n, rfl⟩ : ∃ m, n = m + 1 := ⟨n - 1, by omega⟩
    obtain ⟨a, ha⟩ := get_of (show i < x1.length by omega)
    have hab := hx.get ha
    obtain ⟨c', o', q1, q2, q3, q4, q5, q6⟩ := mul_inner k x1 y1 x1 x1.length i z x0 y0 hy i a hab (x1.length + y1.length) (by omega) (by omega) y1.length 0 k 0 outs (by omega) (by omega) (by decide) hl hd
    have hz : o'[i + y1.length]? = some 0 := by rw [q6 _ (Nat.le_refl _)]; exact h0 _ (Nat.le_refl _) (by omega)
    have h1 : ((i : Int) + 1) = ((i + 1 : Nat) : Int) := rfl
    have h2 : ((i : Int) + (y1.length : Int)) = ((i + y1.length : Nat) : Int) := rfl
    have e2 : V W (o'.set (i + y1.length) c') = V W (x1.take (i + 1)) * V W y1 := by
      rw [V_set _ hz, V_take_succ ha, Int.sub_zero]
      simp only [Nat.add_zero, List.drop_zero, Int.zero_mul, Int.add_zero] at q5
      rw [e] at q5
      rw [Int.add_mul, Int.mul_comm (W ^ i) a, ← q5, Int.mul_comm c']
    have e3 : ∀ p, (i + 1) + y1.length ≤ p → p < (o'.set (i + y1.length) c').length → (o'.set (i + y1.length) c')[p]? = some 0 := by
      intro p hp hpl
      rw [List.getElem?_set_ne (by omega), q6 p (by omega)]
      exact h0 p (by omega) (by simp at hpl; omega)
    obtain ⟨o2, r1, r2⟩ := ih (i + 1) n (o'.set (i + y1.length) c') (by omega) (by omega) (by simpa using q3) (q4.set _ q2) e2 e3
    refine ⟨o2, ?_, r2⟩
    rw [← r1]
    show Lbig_Int_Mul_gsh_0s k (Lbig_Int_Mul_gsh_0 k n) _ _ _ _ _ _ _ _ _ _ = _
    unfold Lbig_Int_Mul_gsh_0s
    have q1' : Lbig_Int_Mul_gsh_2 k k (x1.length + y1.length) i a 0 x1 x1.length i y1 y1.length 0 z x0 x1 y0 y1 outs = _ := q1
    unfold W at q2
    simp (config := { implicitDefEqProofs := false, maxSteps := 2000000 }) (disch := omega) only [ps, ↓reduceIte, reduceCtorEq, Int.reduceLT, Int.reduceLE, Int.reduceEq, Nat.reduceLT, Nat.reduceLeDiff, Nat.reduceEqDiff, Int.reduceNeg, eitherK, ha, q1', h1, h2, hz]
theorem Mul1_ev (z x0 y0 : Bool) (x1 y1 : List Int) {x y : Int} (nx : Nm W x0 x1 x) (ny : Nm W y0 y1 y) (hx : x1.length ≤ 1000000) (hy : y1.length ≤ 1000000) :
    ∃ s l, Rn (fun k => Fbig_Int_Mul_gsh k z x0 x1 y0 y1) (s, l, x0, x1, y0, y1) ∧ Nm W s l (x * y) ∧ l.length ≤ x1.length + y1.length := by
  have hW : (0 : Int) < W := by decide
  have main : ∀ k, x1.length + y1.length < k → ∃ outs', Lbig_Int_Mul_gsh_0 k k (x1.length + y1.length) x1 x1.length (0 : Int) z x0 x1 y0 y1 (List.replicate (x1.length + y1.length) 0) = some (x1.length + y1.length, z, x0, x1, y0, y1, outs') ∧ outs'.length = x1.length + y1.length ∧ Dg W outs' ∧ V W outs' = V W x1 * V W y1 := by
    intro k hk
    refine mul_outer k x1 y1 z x0 y0 nx.c.1 ny.c.1 (by omega) (by omega) (by omega) x1.length 0 k _ (by omega) (by omega) (by simp) (Dg.rep _ hW) (by rw [V_rep]; simp [V]) ?_
    intro p _ hp
    rw [List.getElem?_replicate_of_lt (by simpa using hp)]
  obtain ⟨o, q1, q2, q3, q4⟩ := main (x1.length + y1.length + 1) (by omega)
  refine ⟨sgn (!(x0 == y0)) o, tl o, ?_, ?_, by have := tl_len o; omega⟩
  · obtain ⟨K, hK⟩ := set1_ev (!(x0 == y0)) z o (by omega)
    refine Rn.up (f := fun k => Fbig_Int_Mul_gsh k z x0 x1 y0 y1) (Rn.eq (max K (x1.length + y1.length + 1)) fun k hk => ?_)
    show bbig_Int_Mul_gsh k z x0 x1 y0 y1 = _
    unfold bbig_Int_Mul_gsh
    obtain ⟨o', r1, r2, r3, r4⟩ := main k (by omega)
    have ho : o' = o := Dg.ext r3 q3 (by omega) (by omega)
    subst ho
    have h2 : ((x1.length : Int) + (y1.length : Int)) = ((x1.length + y1.length : Nat) : Int) := rfl
    have hs := hK k (by omega)
    have ht : List.take (x1.length + y1.length) o' = o' := List.take_of_length_le (by omega)
    simp (config := { implicitDefEqProofs := false, maxSteps := 2000000 }) (disch := omega) only [ps, ↓reduceIte, reduceCtorEq, Int.reduceLT, Int.reduceLE, Int.reduceEq, Nat.reduceLT, Nat.reduceLeDiff, Nat.reduceEqDiff, Int.reduceNeg, eitherK, h2, r1, r2, ht, hs]
  · refine (sgn_nm (neg := !(x0 == y0)) q3 q4).cast ?_
    rw [← nx.z, ← ny.z]
    cases x0 <;> cases y0 <;> simp [Int.neg_mul, Int.mul_neg]
theorem limbMul_no {a0 b0 : Bool} {a1 b1 : List Int} (ha : a1.length ≤ 9223372036854775807) (hb : b1.length ≤ 9223372036854775807) (da : Dg W a1) (db : Dg W b1) (h : ¬ (Ri a0 a1 ∧ Ri b0 b1)) : Rn (fun k => Flimb_Mul k a0 a1 b0 b1) (false, [], 10) := by
  refine Rn.up (f := fun k => Flimb_Mul k a0 a1 b0 b1) ?_
  show Rn (fun k => blimb_Mul k a0 a1 b0 b1) _
  unfold blimb_Mul
  refine Rn.bind (both_ev a0 b0 a1 b1 ha hb da db) ?_
  rw [if_neg h]
  (first | (refine Rn.t ?hc ?_; case hc => simp (config := { implicitDefEqProofs := false, maxSteps := 2000000 }) (disch := omega) only [ps, ↓reduceIte, reduceCtorEq, Int.reduceLT, Int.reduceLE, Int.reduceEq, Nat.reduceLT, Nat.reduceLeDiff, Nat.reduceEqDiff, Int.reduceNeg, eitherK]) | (refine Rn.f ?hc ?_; case hc => simp (config := { implicitDefEqProofs := false, maxSteps := 2000000 }) (disch := omega) only [ps, ↓reduceIte, reduceCtorEq, Int.reduceLT, Int.reduceLE, Int.reduceEq, Nat.reduceLT, Nat.reduceLeDiff, Nat.reduceEqDiff, Int.reduceNeg, eitherK]))
  exact Rn.pure _
theorem limbMul_ev {a0 b0 : Bool} {a1 b1 : List Int} (da : Dg W a1) (db : Dg W b1) (h1 : Ri a0 a1) (h2 : Ri b0 b1) :
    ∃ s l, Nm W s l (Zv W a0 a1 * Zv W b0 b1) ∧ l.length ≤ a1.length + b1.length ∧ Rn (fun k => Flimb_Mul k a0 a1 b0 b1) (ans s l) := by
  have k1 := h1.1
  have k2 := h2.1
  obtain ⟨s, l, q1, q2, q3⟩ := Mul1_ev false a0 b0 a1 b1 (h1.nm da) (h2.nm db) (by omega) (by omega)
  refine ⟨s, l, q2, q3, ?_⟩
  refine Rn.up (f := fun k => Flimb_Mul k a0 a1 b0 b1) ?_
  show Rn (fun k => blimb_Mul k a0 a1 b0 b1) _
  unfold blimb_Mul
  refine Rn.bind (both_ev a0 b0 a1 b1 (by omega) (by omega) da db) ?_
  rw [if_pos ⟨h1, h2⟩]
  (first | (refine Rn.t ?hc ?_; case hc => simp (config := { implicitDefEqProofs := false, maxSteps := 2000000 }) (disch := omega) only [ps, ↓reduceIte, reduceCtorEq, Int.reduceLT, Int.reduceLE, Int.reduceEq, Nat.reduceLT, Nat.reduceLeDiff, Nat.reduceEqDiff, Int.reduceNeg, eitherK]) | (refine Rn.f ?hc ?_; case hc => simp (config := { implicitDefEqProofs := false, maxSteps := 2000000 }) (disch := omega) only [ps, ↓reduceIte, reduceCtorEq, Int.reduceLT, Int.reduceLE, Int.reduceEq, Nat.reduceLT, Nat.reduceLeDiff, Nat.reduceEqDiff, Int.reduceNeg, eitherK]))
  refine Rn.bind (Take_ri h1) (Rn.bind (Take_ri h2) (Rn.bind q1 (Rn.bind (answer1_ev q2 (show l.length ≤ 1000000000 by omega)) ?_)))
  refine Rn.t (by simp (config := { implicitDefEqProofs := false, maxSteps := 2000000 }) (disch := omega) only [ps, ↓reduceIte, reduceCtorEq, Int.reduceLT, Int.reduceLE, Int.reduceEq, Nat.reduceLT, Nat.reduceLeDiff, Nat.reduceEqDiff, Int.reduceNeg, eitherK]) ?_
  rw [List.take_length]
  exact Rn.pure _
end Go.Proofs.Ytghdpmejgonjmaa.Am
