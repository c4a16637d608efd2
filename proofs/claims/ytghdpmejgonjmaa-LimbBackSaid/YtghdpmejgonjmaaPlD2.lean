/- Plain reckoning: a number's text. -/
import Derived.Test.YtghdpmejgonjmaaPlD1
import Derived.Test.YtghdpmejgonjmaaPlC
set_option linter.unusedVariables false
set_option linter.unusedSimpArgs false
set_option maxRecDepth 10000
namespace Go.Proofs.Ytghdpmejgonjmaa.Am
open Go

theorem rev_loop (k : Nat) (m0 : Bool) (m1 o : List Int) (hL : o.length ≤ 1000000000) : ∀ (d i n : Nat) (outs : List Int), o.length ≤ 2 * (i + d) + 1 → i ≤ o.length → d < n → outs.length = o.length →
    (∀ p, outs[p]? = if p < i ∨ o.length ≤ p + i then o.reverse[p]? else o[p]?) →
    Lbig_Int_String_awf_4 k n o.length i ((o.length : Int) - 1 - i) m0 m1 outs = some (o.length, m0, m1, o.reverse) := by
  intro d
  induction d with
  | zero =>
    intro i n outs hd hi hn hl h
    obtain ⟨n, rfl⟩ : ∃ m, n = m + 1 := ⟨n - 1, by omega⟩
    have e : outs = o.reverse := by
      refine List.ext_getElem? fun p => ?_
      rw [h p]
      by_cases hp : p < i ∨ o.length ≤ p + i
      · rw [if_pos hp]
      · rw [if_neg hp, List.getElem?_reverse (by omega)]
        congr 1; omega
    show Lbig_Int_String_awf_4s k (Lbig_Int_String_awf_4 k n) _ _ _ _ _ _ = _
    unfold Lbig_Int_String_awf_4s
    simp (config := { implicitDefEqProofs := false, maxSteps := 2000000 }) (disch := omega) only [ps, ↓reduceIte, reduceCtorEq, Int.reduceLT, Int.reduceLE, Int.reduceEq, Nat.reduceLT, Nat.reduceLeDiff, Nat.reduceEqDiff, Int.reduceNeg, eitherK]
    rw [e]
  | succ d ih =>
    intro i n outs hd hi hn hl h
    obtain ⟨n, rfl⟩ : ∃ m, n = m + 1 := ⟨n - 1, by omega⟩
    by_cases hgo : 2 * i + 1 < o.length
    · obtain ⟨j, hj⟩ : ∃ j : Nat, j + i + 1 = o.length := ⟨o.length - 1 - i, by omega⟩
      have hjz : (o.length : Int) - 1 - i = (j : Int) := by omega
      obtain ⟨x, hx⟩ := get_of (show j < o.length by omega)
      obtain ⟨y, hy⟩ := get_of (show i < o.length by omega)
      have gj : outs[j]? = some x := by rw [h j, if_neg (by omega), hx]
      have gi : outs[i]? = some y := by rw [h i, if_neg (by omega), hy]
      have g3 : (outs.set i x)[j]? = some x := by rw [List.getElem?_set_ne (by omega), gj]
      have key := ih (i + 1) n ((outs.set i x).set j y) (by omega) (by omega) (by omega) (by simpa using hl) (fun p => by
        by_cases h1 : p = j
        · subst h1
          rw [List.getElem?_set_self (by simp; omega), if_pos (by omega), List.getElem?_reverse (by omega), ← hy]
          congr 1; omega
        · rw [List.getElem?_set_ne (Ne.symm h1)]
          by_cases h2 : p = i
          · subst h2
            rw [List.getElem?_set_self (by omega), if_pos (by omega), List.getElem?_reverse (by omega), ← hx]
            congr 1; omega
          · rw [List.getElem?_set_ne (Ne.symm h2), h p]
            by_cases h3 : p < i ∨ o.length ≤ p + i
            · rw [if_pos h3, if_pos (by omega)]
            · rw [if_neg h3, if_neg (by omega)])
      have hj2 : (o.length : Int) - 1 - ((i + 1 : Nat) : Int) = (j : Int) - 1 := by omega
      rw [hj2] at key
      rw [hjz, ← key]
      show Lbig_Int_String_awf_4s k (Lbig_Int_String_awf_4 k n) _ _ _ _ _ _ = _
      unfold Lbig_Int_String_awf_4s
      have h1 : ((i : Int) + 1) = ((i + 1 : Nat) : Int) := rfl
      simp (config := { implicitDefEqProofs := false, maxSteps := 2000000 }) (disch := omega) only [ps, ↓reduceIte, reduceCtorEq, Int.reduceLT, Int.reduceLE, Int.reduceEq, Nat.reduceLT, Nat.reduceLeDiff, Nat.reduceEqDiff, Int.reduceNeg, eitherK, gj, gi, g3, h1]
    · have e : outs = o.reverse := by
        refine List.ext_getElem? fun p => ?_
        rw [h p]
        by_cases hp : p < i ∨ o.length ≤ p + i
        · rw [if_pos hp]
        · rw [if_neg hp, List.getElem?_reverse (by omega)]
          congr 1; omega
      show Lbig_Int_String_awf_4s k (Lbig_Int_String_awf_4 k n) _ _ _ _ _ _ = _
      unfold Lbig_Int_String_awf_4s
      simp (config := { implicitDefEqProofs := false, maxSteps := 2000000 }) (disch := omega) only [ps, ↓reduceIte, reduceCtorEq, Int.reduceLT, Int.reduceLE, Int.reduceEq, Nat.reduceLT, Nat.reduceLeDiff, Nat.reduceEqDiff, Int.reduceNeg, eitherK]
      rw [e]
/-- A number's text: the digits of its magnitude, the sign ahead. -/
structure Tx (z : Int) (s : ByteArray) : Prop where
  nz : z = 0 → s = bytesOf [48]
  ex : z ≠ 0 → ∃ l, Cn 10 l ∧ V 10 l = z.natAbs ∧ s = bytesOf ((if z < 0 then [45] else []) ++ (sg l).reverse)
theorem Tx.ext {z : Int} {s t : ByteArray} (h1 : Tx z s) (h2 : Tx z t) : s = t := by
  by_cases h : z = 0
  · rw [h1.nz h, h2.nz h]
  · obtain ⟨l, a1, a2, a3⟩ := h1.ex h
    obtain ⟨m, b1, b2, b3⟩ := h2.ex h
    rw [a3, b3, Cn.ext (by decide) a1 b1 (by rw [a2, b2])]
theorem pow_bd (n : Nat) : W ^ n ≤ 1000000000 ^ (2 * n) := by
  induction n with
  | zero => decide
  | succ n ih =>
    rw [Int.pow_succ, show 2 * (n + 1) = 2 * n + 1 + 1 by omega, Int.pow_succ, Int.pow_succ, Int.mul_assoc]
    have h1 : (0 : Int) < 1000000000 ^ (2 * n) := Int.pow_pos (by decide)
    have h2 : W ^ n * W ≤ 1000000000 ^ (2 * n) * W := Int.mul_le_mul_of_nonneg_right ih (by decide)
    have h3 : (1000000000 : Int) ^ (2 * n) * W ≤ 1000000000 ^ (2 * n) * (1000000000 * 1000000000) := Int.mul_le_mul_of_nonneg_left (by decide) (by omega)
    omega
theorem String_ev (z0 : Bool) (z1 : List Int) {z : Int} (hn : Nm W z0 z1 z) (hl : z1.length ≤ 1000) : ∃ s, Rn (fun k => Fbig_Int_String_awf k z0 z1) (s, z0, z1) ∧ Tx z s := by
  have hab := hn.abs (B := W) (by decide)
  have hng := hn.neg (B := W) (by decide)
  by_cases h0 : z1 = []
  · have hz : z = 0 := by
      have := hn.z
      rw [h0] at this
      cases z0 <;> simp [V] at this <;> omega
    subst h0; subst hz
    refine ⟨bytesOf [48], ?_, ⟨fun _ => rfl, fun h => absurd rfl h⟩⟩
    refine Rn.up (f := fun k => Fbig_Int_String_awf k z0 []) ?_
    show Rn (fun k => bbig_Int_String_awf k z0 []) _
    unfold bbig_Int_String_awf
    (first | (refine Rn.t ?hc ?_; case hc => simp (config := { implicitDefEqProofs := false, maxSteps := 2000000 }) (disch := omega) only [ps, ↓reduceIte, reduceCtorEq, Int.reduceLT, Int.reduceLE, Int.reduceEq, Nat.reduceLT, Nat.reduceLeDiff, Nat.reduceEqDiff, Int.reduceNeg, eitherK]) | (refine Rn.f ?hc ?_; case hc => simp (config := { implicitDefEqProofs := false, maxSteps := 2000000 }) (disch := omega) only [ps, ↓reduceIte, reduceCtorEq, Int.reduceLT, Int.reduceLE, Int.reduceEq, Nat.reduceLT, Nat.reduceLeDiff, Nat.reduceEqDiff, Int.reduceNeg, eitherK]))
    exact Rn.pure _
  · have hlen : 0 < z1.length := by cases z1 with
      | nil => exact absurd rfl h0
      | cons _ _ => simp
    have hz : z ≠ 0 := by
      have := mt (hn.c.nil_iff (B := W) (by decide)).2 h0
      rw [hab] at this; omega
    have hbd : V W z1 < 1000000000 ^ (2 * z1.length) := by
      have h1 := V_lt (B := W) (by decide) hn.c.1
      have h2 := pow_bd z1.length
      omega
    have main : ∀ k, 1000000001 ≤ k → ∃ l, Lbig_Int_String_awf_0 k k 0 z1 z0 z1 [] = some (l.length, z0, z1, sg l) ∧ Cn 10 l ∧ V 10 l = V W z1 ∧ l.length ≤ 18000 := by
      intro k hk
      obtain ⟨l, q1, q2, q3, q4⟩ := str_loop k z1 z0 (by omega) (2 * z1.length) k z1 [] hbd hn.c (by omega) (by omega) (by simp; omega) Dg.nil (fun h => absurd h h0)
      exact ⟨l, q1, q2, by rw [q3]; simp [V], by simp at q4; omega⟩
    obtain ⟨l, q1, q2, q3, q4⟩ := main 1000000001 (Nat.le_refl _)
    have hl0 : (sg l).length = l.length := sg_len l
    refine ⟨bytesOf ((if z < 0 then [45] else []) ++ (sg l).reverse), ?_, ⟨fun h => absurd h hz, fun _ => ⟨l, q2, by rw [q3, hab], rfl⟩⟩⟩
    refine Rn.up (f := fun k => Fbig_Int_String_awf k z0 z1) (Rn.eq 1000000001 fun k hk => ?_)
    show bbig_Int_String_awf k z0 z1 = _
    unfold bbig_Int_String_awf
    obtain ⟨l', r1, r2, r3, r4⟩ := main k hk
    have hll : l' = l := Cn.ext (by decide) r2 q2 (by rw [r3, q3])
    subst hll
    cases z0
    · have hzn : ¬ z < 0 := by simpa using hng
      have hrev := rev_loop k false z1 (sg l') (by rw [hl0]; omega) l'.length 0 k (sg l') (by rw [hl0]; omega) (by omega) (by omega) rfl (fun p => by
        by_cases hp : p < 0 ∨ (sg l').length ≤ p + 0
        · rw [if_pos hp, List.getElem?_eq_none (by omega), List.getElem?_eq_none (by simp; omega)]
        · rw [if_neg hp])
      rw [hl0] at hrev
      have hrev' : Lbig_Int_String_awf_4 k k l'.length 0 ((l'.length : Int) - 1) false z1 (sg l') = some (l'.length, false, z1, (sg l').reverse) := by
        have e : ((l'.length : Int) - 1 - ((0 : Nat) : Int)) = (l'.length : Int) - 1 := by omega
        rw [e] at hrev
        exact hrev
      have ht : (sg l').reverse.take l'.length = (sg l').reverse := List.take_of_length_le (by simp [hl0])
      simp (config := { implicitDefEqProofs := false, maxSteps := 2000000 }) (disch := omega) only [ps, ↓reduceIte, reduceCtorEq, Int.reduceLT, Int.reduceLE, Int.reduceEq, Nat.reduceLT, Nat.reduceLeDiff, Nat.reduceEqDiff, Int.reduceNeg, eitherK, r1, hrev', List.length_reverse, hl0, ht, hzn]
      rfl
    · have hzn : z < 0 := by simpa using hng
      have hm : (sg l' ++ [(45 : Int)]).length = l'.length + 1 := by simp [hl0]
      have hrev := rev_loop k true z1 (sg l' ++ [45]) (by rw [hm]; omega) (l'.length + 1) 0 k (sg l' ++ [45]) (by rw [hm]; omega) (by omega) (by omega) rfl (fun p => by
        by_cases hp : p < 0 ∨ (sg l' ++ [(45 : Int)]).length ≤ p + 0
        · rw [if_pos hp, List.getElem?_eq_none (by omega), List.getElem?_eq_none (by rw [List.length_reverse]; omega)]
        · rw [if_neg hp])
      rw [hm] at hrev
      have hrev' : Lbig_Int_String_awf_4 k k (l'.length + 1) 0 (((l'.length + 1 : Nat) : Int) - 1) true z1 (sg l' ++ [45]) = some (l'.length + 1, true, z1, (sg l' ++ [45]).reverse) := by
        have e : (((l'.length + 1 : Nat) : Int) - 1 - ((0 : Nat) : Int)) = ((l'.length + 1 : Nat) : Int) - 1 := by omega
        rw [e] at hrev
        exact hrev
      have ht0 : (sg l').take l'.length = sg l' := List.take_of_length_le (by omega)
      have ht : (sg l' ++ [(45 : Int)]).reverse.take (l'.length + 1) = (sg l' ++ [45]).reverse := List.take_of_length_le (by rw [List.length_reverse, hm]; omega)
      simp (config := { implicitDefEqProofs := false, maxSteps := 2000000 }) (disch := omega) only [ps, ↓reduceIte, reduceCtorEq, Int.reduceLT, Int.reduceLE, Int.reduceEq, Nat.reduceLT, Nat.reduceLeDiff, Nat.reduceEqDiff, Int.reduceNeg, eitherK, r1, List.take_succ_cons, ht0, hrev', List.length_reverse, hm, hl0, ht, hzn]
      rw [List.reverse_append]
      rfl
theorem limbText_no {a0 : Bool} {a1 : List Int} (la : a1.length ≤ 9223372036854775807) (da : Dg W a1) (h : ¬ Ri a0 a1) : Rn (fun k => Flimb_Text k a0 a1) (bytesOf [], 10) := by
  refine Rn.up (f := fun k => Flimb_Text k a0 a1) ?_
  show Rn (fun k => blimb_Text k a0 a1) _
  unfold blimb_Text
  refine Rn.bind (check_ev a0 a1 la da) ?_
  rw [if_neg h]
  (first | (refine Rn.t ?hc ?_; case hc => simp (config := { implicitDefEqProofs := false, maxSteps := 2000000 }) (disch := omega) only [ps, ↓reduceIte, reduceCtorEq, Int.reduceLT, Int.reduceLE, Int.reduceEq, Nat.reduceLT, Nat.reduceLeDiff, Nat.reduceEqDiff, Int.reduceNeg, eitherK]) | (refine Rn.f ?hc ?_; case hc => simp (config := { implicitDefEqProofs := false, maxSteps := 2000000 }) (disch := omega) only [ps, ↓reduceIte, reduceCtorEq, Int.reduceLT, Int.reduceLE, Int.reduceEq, Nat.reduceLT, Nat.reduceLeDiff, Nat.reduceEqDiff, Int.reduceNeg, eitherK]))
  exact Rn.pure _
theorem limbText_ev {a0 : Bool} {a1 : List Int} (da : Dg W a1) (h : Ri a0 a1) : ∃ s, Rn (fun k => Flimb_Text k a0 a1) (s, 0) ∧ Tx (Zv W a0 a1) s := by
  have k1 := h.1
  obtain ⟨s, h1, h2⟩ := String_ev a0 a1 (h.nm da) (by omega)
  refine ⟨s, ?_, h2⟩
  refine Rn.up (f := fun k => Flimb_Text k a0 a1) ?_
  show Rn (fun k => blimb_Text k a0 a1) _
  unfold blimb_Text
  refine Rn.bind (check_ev a0 a1 (by omega) da) ?_
  rw [if_pos h]
  (first | (refine Rn.t ?hc ?_; case hc => simp (config := { implicitDefEqProofs := false, maxSteps := 2000000 }) (disch := omega) only [ps, ↓reduceIte, reduceCtorEq, Int.reduceLT, Int.reduceLE, Int.reduceEq, Nat.reduceLT, Nat.reduceLeDiff, Nat.reduceEqDiff, Int.reduceNeg, eitherK]) | (refine Rn.f ?hc ?_; case hc => simp (config := { implicitDefEqProofs := false, maxSteps := 2000000 }) (disch := omega) only [ps, ↓reduceIte, reduceCtorEq, Int.reduceLT, Int.reduceLE, Int.reduceEq, Nat.reduceLT, Nat.reduceLeDiff, Nat.reduceEqDiff, Int.reduceNeg, eitherK]))
  exact Rn.bind (Take_ri h) (Rn.bind h1 (Rn.pure _))
end Go.Proofs.Ytghdpmejgonjmaa.Am
