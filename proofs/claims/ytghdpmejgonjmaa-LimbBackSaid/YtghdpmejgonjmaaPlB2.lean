/- Plain reckoning: the program's own whole numbers: signed sums, differences, comparing; what a layer's caller gives and takes. -/
import Derived.Test.YtghdpmejgonjmaaPlB1
set_option linter.unusedVariables false
set_option linter.unusedSimpArgs false
set_option maxRecDepth 10000
namespace Go.Proofs.Ytghdpmejgonjmaa.Am
open Go

theorem add_ev (a b : List Int) (hla : a.length ≤ 1000000000) (hlb : b.length ≤ 1000000000) (ha : Dg W a) (hb : Dg W b) :
    ∃ l, Rn (fun k => Fbig_add k a b) l ∧ Dg W l ∧ V W l = V W a + V W b ∧ l.length = max a.length b.length + 1 := by
  have main : ∀ a b : List Int, a.length ≤ 1000000000 → b.length ≤ a.length → Dg W a → Dg W b → ∃ l, Dg W l ∧ V W l = V W a + V W b ∧ l.length = a.length + 1 ∧ ∀ k, a.length < k →
      ∃ r5 : List Int × Nat × Int × List Int, Lbig_add_0 k k a b (a.length + 1) 0 a.length (0 : Int) (List.replicate (a.length + 1) 0) = some r5 ∧ r5.1 = a ∧ r5.2.1 = a.length + 1 ∧ r5.2.2.2.length = a.length + 1 ∧ (0 ≤ r5.2.2.1 ∧ r5.2.2.1 ≤ 1) ∧ l = r5.2.2.2.set a.length r5.2.2.1 := by
    intro a b hla hba ha hb
    obtain ⟨c0, o0, h1, h2, h3, h4, h5⟩ := add_loop (a.length + 1) a b hba (by omega) ha hb a.length 0 (a.length + 1) 0 (List.replicate (a.length + 1) 0) (by omega) (by omega) (by decide) (by simp) (Dg.rep _ (by decide)) (by simp [V])
    refine ⟨o0.set a.length c0, h4.set _ (by unfold W; omega), ?_, by simpa using h3, ?_⟩
    · have : o0.set a.length c0 = o0.take a.length ++ [c0] := by
        rw [← set_take_succ o0 a.length c0 (by omega), List.take_of_length_le (by simp; omega)]
      rw [this, V_snoc, List.length_take, Nat.min_eq_left (by omega), ← h5, Int.mul_comm]
    · intro k hk
      obtain ⟨c, o, q1, q2, q3, q4, q5⟩ := add_loop k a b hba (by omega) ha hb a.length 0 k 0 (List.replicate (a.length + 1) 0) (by omega) (by omega) (by decide) (by simp) (Dg.rep _ (by decide)) (by simp [V])
      refine ⟨_, q1, rfl, rfl, q3, q2, ?_⟩
      have e0 : o0.set a.length c0 = o0.take a.length ++ [c0] := by
        rw [← set_take_succ o0 a.length c0 (by omega), List.take_of_length_le (by simp; omega)]
      have e1 : o.set a.length c = o.take a.length ++ [c] := by
        rw [← set_take_succ o a.length c (by omega), List.take_of_length_le (by simp; omega)]
      -- the same digits: the same worth, the same length
      have same : ∀ l m : List Int, Dg W l → Dg W m → l.length = m.length → V W l = V W m → l = m := by
        intro l
        induction l with
        | nil => intro m _ _ hl _; cases m with
          | nil => rfl
          | cons y m => simp at hl
        | cons x l ih =>
          intro m d1 d2 hl e
          cases m with
          | nil => simp at hl
          | cons y m =>
            have hx := d1.head
            have hy := d2.head
            simp only [V] at e
            have a1 : (x + W * V W l) % W = x := by rw [Int.add_mul_emod_self_left]; exact Int.emod_eq_of_lt hx.1 hx.2
            have a2 : (y + W * V W m) % W = y := by rw [Int.add_mul_emod_self_left]; exact Int.emod_eq_of_lt hy.1 hy.2
            have e1 : x = y := by rw [← a1, ← a2, e]
            subst e1
            have e2 : W * V W l = W * V W m := by omega
            have e3 : V W l = V W m := Int.eq_of_mul_eq_mul_left (by decide) e2
            rw [ih m d1.tail d2.tail (by simpa using hl) e3]
      refine same _ _ (h4.set _ (by unfold W; omega)) (q4.set _ (show 0 ≤ c ∧ c < W by unfold W; omega)) (by simp [h3, q3]) ?_
      rw [e0, e1, V_snoc, V_snoc, List.length_take, List.length_take, Nat.min_eq_left (by omega), Nat.min_eq_left (by omega), Int.mul_comm, h5, ← q5, Int.mul_comm]
  by_cases h : a.length < b.length
  · obtain ⟨l, h1, h2, h3, h4⟩ := main b a hlb (by omega) hb ha
    refine ⟨l, Rn.eq (b.length + 2) fun k hk => ?_, h1, by rw [h2]; omega, by rw [h3]; omega⟩
    obtain ⟨k, rfl⟩ : ∃ m, k = m + 1 := ⟨k - 1, by omega⟩
    show bbig_add k a b = _
    unfold bbig_add
    obtain ⟨r5, q1, q2, q3, q4, q5, q6⟩ := h4 k (by omega)
    have e1 : ((b.length : Int) + 1) = ((b.length + 1 : Nat) : Int) := rfl
    obtain ⟨o, ho⟩ := get_of (show b.length < r5.2.2.2.length by omega)
    simp (config := { implicitDefEqProofs := false, maxSteps := 2000000 }) (disch := omega) only [ps, ↓reduceIte, reduceCtorEq, Int.reduceLT, Int.reduceLE, Int.reduceEq, Nat.reduceLT, Nat.reduceLeDiff, Nat.reduceEqDiff, Int.reduceNeg, eitherK, h, e1, q1, q2, q3, ho, List.length_set, q4]
    rw [q6, List.take_of_length_le (by simp; omega)]
  · obtain ⟨l, h1, h2, h3, h4⟩ := main a b hla (by omega) ha hb
    refine ⟨l, Rn.eq (a.length + 2) fun k hk => ?_, h1, h2, by rw [h3]; omega⟩
    obtain ⟨k, rfl⟩ : ∃ m, k = m + 1 := ⟨k - 1, by omega⟩
    show bbig_add k a b = _
    unfold bbig_add
    obtain ⟨r5, q1, q2, q3, q4, q5, q6⟩ := h4 k (by omega)
    have e1 : ((a.length : Int) + 1) = ((a.length + 1 : Nat) : Int) := rfl
    obtain ⟨o, ho⟩ := get_of (show a.length < r5.2.2.2.length by omega)
    simp (config := { implicitDefEqProofs := false, maxSteps := 2000000 }) (disch := omega) only [ps, ↓reduceIte, reduceCtorEq, Int.reduceLT, Int.reduceLE, Int.reduceEq, Nat.reduceLT, Nat.reduceLeDiff, Nat.reduceEqDiff, Int.reduceNeg, eitherK, h, e1, q1, q2, q3, ho, List.length_set, q4]
    rw [q6, List.take_of_length_le (by simp; omega)]

/-- Digits of one length are told by their worth. -/
theorem Dg.ext : ∀ {l m : List Int}, Dg W l → Dg W m → l.length = m.length → V W l = V W m → l = m := by
  intro l
  induction l with
  | nil => intro m _ _ hl _; cases m with
    | nil => rfl
    | cons y m => simp at hl
  | cons x l ih =>
    intro m d1 d2 hl e
    cases m with
    | nil => simp at hl
    | cons y m =>
      have hx := d1.head
      have hy := d2.head
      simp only [V] at e
      have a1 : (x + W * V W l) % W = x := by rw [Int.add_mul_emod_self_left]; exact Int.emod_eq_of_lt hx.1 hx.2
      have a2 : (y + W * V W m) % W = y := by rw [Int.add_mul_emod_self_left]; exact Int.emod_eq_of_lt hy.1 hy.2
      have e1 : x = y := by rw [← a1, ← a2, e]
      subst e1
      have e2 : W * V W l = W * V W m := by omega
      have e3 : V W l = V W m := Int.eq_of_mul_eq_mul_left (by decide) e2
      rw [ih d1.tail d2.tail (by simpa using hl) e3]

theorem sub_loop (k : Nat) (a b : List Int) (hba : b.length ≤ a.length) (hla : a.length ≤ 1000000000) (ha : Dg W a) (hb : Dg W b) : ∀ (d i n : Nat) (borrow : Int) (outs : List Int), i + d = a.length → d < n → 0 ≤ borrow ∧ borrow ≤ 1 → outs.length = a.length → Dg W outs →
    V W (outs.take i) = V W (a.take i) - V W (b.take i) + borrow * W ^ i →
    ∃ borrow' outs', Lbig_sub_0 k n a b a.length borrow a.length i outs = some (a.length, outs') ∧ (0 ≤ borrow' ∧ borrow' ≤ 1) ∧ outs'.length = a.length ∧ Dg W outs' ∧ V W outs' = V W a - V W b + borrow' * W ^ a.length := by
  intro d
  induction d with
  | zero =>
    intro i n borrow outs hi hn hc hl hd e
    obtain ⟨n, rfl⟩ : ∃ m, n = m + 1 := ⟨n - 1, by omega⟩
    have hia : i = a.length := by omega
    subst hia
    refine ⟨borrow, outs, ?_, hc, hl, hd, ?_⟩
    · show Lbig_sub_0s k (Lbig_sub_0 k n) a b _ _ _ _ _ = _
      unfold Lbig_sub_0s
      simp (config := { implicitDefEqProofs := false, maxSteps := 2000000 }) (disch := omega) only [ps, ↓reduceIte, reduceCtorEq, Int.reduceLT, Int.reduceLE, Int.reduceEq, Nat.reduceLT, Nat.reduceLeDiff, Nat.reduceEqDiff, Int.reduceNeg, eitherK]
    · rw [List.take_of_length_le (by omega), List.take_length, List.take_of_length_le hba] at e
      exact e
  | succ d ih =>
    intro i n borrow outs hi hn hc hl hd e
    obtain ⟨n, rfl⟩ : ∃ m, n = m + 1 := ⟨n - 1, by omega⟩
    obtain ⟨x, hx⟩ := get_of (show i < a.length by omega)
    obtain ⟨o, ho⟩ := get_of (show i < outs.length by omega)
    have hxb := ha.get hx
    have h1 : ((i : Int) + 1) = ((i + 1 : Nat) : Int) := rfl
    have ta := V_take_succ (B := W) hx
    have key : ∀ (y z b' : Int), V W (b.take (i + 1)) = V W (b.take i) + W ^ i * y → 0 ≤ z ∧ z < W → z = x - y - borrow + b' * W → 0 ≤ b' ∧ b' ≤ 1 → ∃ borrow' outs', Lbig_sub_0 k n a b a.length b' a.length ((i + 1 : Nat) : Int) (outs.set i z) = some (a.length, outs') ∧ (0 ≤ borrow' ∧ borrow' ≤ 1) ∧ outs'.length = a.length ∧ Dg W outs' ∧ V W outs' = V W a - V W b + borrow' * W ^ a.length := by
      intro y z b' tb hz hzz hb'
      refine ih (i + 1) n _ _ (by omega) (by omega) hb' (by simpa using hl) (hd.set i hz) ?_
      rw [set_take_succ _ _ _ (by omega), V_snoc, List.length_take, Nat.min_eq_left (by omega), ta, tb, Int.pow_succ]
      grind
    show ∃ borrow' outs', Lbig_sub_0s k (Lbig_sub_0 k n) a b _ _ _ _ _ = _ ∧ _
    unfold Lbig_sub_0s
    have fin : ∀ y : Int, 0 ≤ y ∧ y < W → V W (b.take (i + 1)) = V W (b.take i) + W ^ i * y → ∃ borrow' outs', (if x < borrow + y then Lbig_sub_0 k n a b a.length 1 a.length ((i + 1 : Nat) : Int) (outs.set i ((x - (borrow + y)) % 18446744073709551616 % 4294967296)) else Lbig_sub_0 k n a b a.length 0 a.length ((i + 1 : Nat) : Int) (outs.set i ((x - (borrow + y)) % 18446744073709551616 % 4294967296))) = some (a.length, outs') ∧ (0 ≤ borrow' ∧ borrow' ≤ 1) ∧ outs'.length = a.length ∧ Dg W outs' ∧ V W outs' = V W a - V W b + borrow' * W ^ a.length := by
      intro y hy tb
      unfold W at hy hxb
      by_cases h : x < borrow + y
      · rw [if_pos h]
        exact key y _ 1 tb (by unfold W; omega) (by unfold W; omega) (by decide)
      · rw [if_neg h]
        exact key y _ 0 tb (by unfold W; omega) (by unfold W; omega) (by decide)
    by_cases hb2 : i < b.length
    · obtain ⟨y, hy⟩ := get_of hb2
      have hyb := hb.get hy
      obtain ⟨c', o', q1, q2⟩ := fin y hyb (V_take_succ hy)
      refine ⟨c', o', ?_, q2⟩
      rw [← q1]
      unfold W at hxb hyb
      simp (config := { implicitDefEqProofs := false, maxSteps := 2000000 }) (disch := omega) only [ps, ↓reduceIte, reduceCtorEq, Int.reduceLT, Int.reduceLE, Int.reduceEq, Nat.reduceLT, Nat.reduceLeDiff, Nat.reduceEqDiff, Int.reduceNeg, eitherK, hx, hy, ho, h1, wrap_u32, wrap_u64 (x - (borrow + y))]
    · obtain ⟨c', o', q1, q2⟩ := fin 0 (by decide) (by rw [List.take_of_length_le (by omega), List.take_of_length_le (by omega)]; simp)
      refine ⟨c', o', ?_, q2⟩
      rw [← q1]
      unfold W at hxb
      simp (config := { implicitDefEqProofs := false, maxSteps := 2000000 }) (disch := omega) only [ps, ↓reduceIte, reduceCtorEq, Int.reduceLT, Int.reduceLE, Int.reduceEq, Nat.reduceLT, Nat.reduceLeDiff, Nat.reduceEqDiff, Int.reduceNeg, eitherK, hx, ho, h1, wrap_u32, wrap_u64 (x - borrow), Int.add_zero]
theorem sub_ev (a b : List Int) (hla : a.length ≤ 1000000000) (ha : Dg W a) (hb : Cn W b) (h : V W b ≤ V W a) :
    ∃ l, Rn (fun k => Fbig_sub k a b) l ∧ Dg W l ∧ V W l = V W a - V W b ∧ l.length = a.length := by
  have hba : b.length ≤ a.length := by
    refine (hb.len_le (by decide) _).2 ?_
    have := V_lt (B := W) (by decide) ha
    omega
  have hB := V_nonneg (B := W) (by decide) hb.1
  have main : ∀ k, a.length < k → ∃ o, Lbig_sub_0 k k a b a.length 0 a.length (0 : Int) (List.replicate a.length 0) = some (a.length, o) ∧ o.length = a.length ∧ Dg W o ∧ V W o = V W a - V W b := by
    intro k hk
    obtain ⟨c, o, q1, q2, q3, q4, q5⟩ := sub_loop k a b hba hla ha hb.1 a.length 0 k 0 (List.replicate a.length 0) (by omega) (by omega) (by decide) (by simp) (Dg.rep _ (by decide)) (by simp [V])
    refine ⟨o, q1, q3, q4, ?_⟩
    have p1 := V_lt (B := W) (by decide) q4
    rw [q3] at p1
    have p2 : c = 0 := by
      rcases (by omega : c = 0 ∨ c = 1) with h | h
      · exact h
      · subst h; omega
    rw [q5, p2]; simp
  obtain ⟨o, q1, q2, q3, q4⟩ := main (a.length + 1) (by omega)
  refine ⟨o, Rn.eq (a.length + 2) fun k hk => ?_, q3, q4, q2⟩
  obtain ⟨k, rfl⟩ : ∃ m, k = m + 1 := ⟨k - 1, by omega⟩
  show bbig_sub k a b = _
  unfold bbig_sub
  obtain ⟨o', r1, r2, r3, r4⟩ := main k (by omega)
  simp (config := { implicitDefEqProofs := false, maxSteps := 2000000 }) (disch := omega) only [ps, ↓reduceIte, reduceCtorEq, Int.reduceLT, Int.reduceLE, Int.reduceEq, Nat.reduceLT, Nat.reduceLeDiff, Nat.reduceEqDiff, Int.reduceNeg, eitherK, r1, r2]
  rw [List.take_of_length_le (by omega), Dg.ext q3 r3 (by omega) (by omega)]

/-- What set says of a sign and words. -/
def sgn (neg : Bool) (w : List Int) : Bool := if neg then decide (0 < (tl w).length) else false
theorem sgn_nm {neg : Bool} {w : List Int} {v : Int} (h : Dg W w) (e : V W w = v) : Nm W (sgn neg w) (tl w) (if neg then -v else v) := by
  refine ⟨Cn.of h, fun hs h0 => ?_, ?_⟩
  · unfold sgn at hs; split at hs
    · rw [h0] at hs; simp at hs
    · cases hs
  · rw [V_tl, e]
    unfold sgn
    cases neg
    · simp
    · by_cases h0 : tl w = []
      · have := V_tl (B := W) w
        rw [h0, e] at this
        simp [h0, ← this, V]
      · have : 0 < (tl w).length := by cases hq : tl w with
          | nil => exact absurd hq h0
          | cons _ _ => simp
        simp [this]
theorem set1_ev (neg z : Bool) (w : List Int) (hl : w.length ≤ 1000000001) : Rn (fun k => Fbig_Int_set_cvg k neg w z) (sgn neg w, tl w) := by
  refine Rn.up (f := fun k => Fbig_Int_set_cvg k neg w z) ?_
  show Rn (fun k => bbig_Int_set_cvg k neg w z) _
  unfold bbig_Int_set_cvg
  refine Rn.bind (trim_ev w (by omega)) ?_
  unfold sgn
  cases neg
  · simp (config := { implicitDefEqProofs := false, maxSteps := 2000000 }) (disch := omega) only [ps, ↓reduceIte, reduceCtorEq, Int.reduceLT, Int.reduceLE, Int.reduceEq, Nat.reduceLT, Nat.reduceLeDiff, Nat.reduceEqDiff, Int.reduceNeg, eitherK]; exact Rn.pure _
  · simp (config := { implicitDefEqProofs := false, maxSteps := 2000000 }) (disch := omega) only [ps, ↓reduceIte, reduceCtorEq, Int.reduceLT, Int.reduceLE, Int.reduceEq, Nat.reduceLT, Nat.reduceLeDiff, Nat.reduceEqDiff, Int.reduceNeg, eitherK]
    have : (decide ((0 : Int) < ((tl w).length : Int))) = decide (0 < (tl w).length) := by congr 1; simp
    rw [this]; exact Rn.pure _
theorem set2_ev (neg z : Bool) (w zs : List Int) (hl : w.length ≤ 1000000001) : Rn (fun k => Fbig_Int_set_paj k neg w z zs) (sgn neg w, tl w) := by
  refine Rn.up (f := fun k => Fbig_Int_set_paj k neg w z zs) ?_
  show Rn (fun k => bbig_Int_set_paj k neg w z zs) _
  unfold bbig_Int_set_paj
  refine Rn.bind (trim_ev w (by omega)) ?_
  unfold sgn
  cases neg
  · simp (config := { implicitDefEqProofs := false, maxSteps := 2000000 }) (disch := omega) only [ps, ↓reduceIte, reduceCtorEq, Int.reduceLT, Int.reduceLE, Int.reduceEq, Nat.reduceLT, Nat.reduceLeDiff, Nat.reduceEqDiff, Int.reduceNeg, eitherK]; exact Rn.pure _
  · simp (config := { implicitDefEqProofs := false, maxSteps := 2000000 }) (disch := omega) only [ps, ↓reduceIte, reduceCtorEq, Int.reduceLT, Int.reduceLE, Int.reduceEq, Nat.reduceLT, Nat.reduceLeDiff, Nat.reduceEqDiff, Int.reduceNeg, eitherK]
    have : (decide ((0 : Int) < ((tl w).length : Int))) = decide (0 < (tl w).length) := by congr 1; simp
    rw [this]; exact Rn.pure _

/-- The magnitudes' sum or difference, and its sign. -/
theorem sum_any {R : Type} (x0 yneg : Bool) (x1 y : List Int) (hx : x1.length ≤ 1000000000) (hy : y.length ≤ 1000000000) (cx : Cn W x1) (cy : Cn W y) (S : Nat → Bool → List Int → Option (Bool × List Int)) (hS : ∀ neg w, w.length ≤ 1000000001 → Rn (fun k => S k neg w) (sgn neg w, tl w)) (fin : Bool × List Int → R) :
    ∃ s l, Rn (fun k => if ((x0 == yneg) = true) then
      Option.bind (Fbig_add k x1 y) fun r5 =>
      Option.bind (S k x0 r5) fun r6 =>
      some (fin r6)
    else
    Option.bind (Fbig_cmp k x1 y) fun r5 =>
    if ((decide (r5 ≥ (0 : Int))) = true) then
      Option.bind (Fbig_sub k x1 y) fun r6 =>
      Option.bind (S k x0 r6) fun r7 =>
      some (fin r7)
    else
    Option.bind (Fbig_sub k y x1) fun r6 =>
    Option.bind (S k yneg r6) fun r7 =>
    some (fin r7)) (fin (s, l)) ∧ Nm W s l ((if x0 then -(V W x1) else V W x1) + (if yneg then -(V W y) else V W y)) ∧ l.length ≤ max x1.length y.length + 1 := by
  by_cases h : x0 = yneg
  · subst h
    obtain ⟨l, h1, h2, h3, h4⟩ := add_ev x1 y hx hy cx.1 cy.1
    refine ⟨sgn x0 l, tl l, ?_, ?_, by have := tl_len l; omega⟩
    · simp (config := { implicitDefEqProofs := false, maxSteps := 2000000 }) (disch := omega) only [ps, ↓reduceIte, reduceCtorEq, Int.reduceLT, Int.reduceLE, Int.reduceEq, Nat.reduceLT, Nat.reduceLeDiff, Nat.reduceEqDiff, Int.reduceNeg, eitherK]
      exact Rn.bind h1 (Rn.bind (hS x0 l (by omega)) (Rn.pure _))
    · have := sgn_nm (neg := x0) h2 h3
      cases x0
      · simpa using this
      · simp only [if_true] at this ⊢
        rw [show -V W x1 + -V W y = -(V W x1 + V W y) by omega]
        exact this
  · have h' : (x0 == yneg) = false := by simpa using h
    have hc := cmp_ev x1 y (by omega) (by omega) cx cy
    by_cases h2 : V W x1 < V W y
    · rw [if_pos h2] at hc
      obtain ⟨l, q1, q2, q3, q4⟩ := sub_ev y x1 hy cy.1 cx (by omega)
      refine ⟨sgn yneg l, tl l, ?_, ?_, by have := tl_len l; omega⟩
      · simp (config := { implicitDefEqProofs := false, maxSteps := 2000000 }) (disch := omega) only [ps, ↓reduceIte, reduceCtorEq, Int.reduceLT, Int.reduceLE, Int.reduceEq, Nat.reduceLT, Nat.reduceLeDiff, Nat.reduceEqDiff, Int.reduceNeg, eitherK, h']
        refine Rn.bind hc ?_
        simp (config := { implicitDefEqProofs := false, maxSteps := 2000000 }) (disch := omega) only [ps, ↓reduceIte, reduceCtorEq, Int.reduceLT, Int.reduceLE, Int.reduceEq, Nat.reduceLT, Nat.reduceLeDiff, Nat.reduceEqDiff, Int.reduceNeg, eitherK]
        exact Rn.bind q1 (Rn.bind (hS _ l (by omega)) (Rn.pure _))
      · refine (sgn_nm (neg := yneg) q2 q3).cast ?_
        cases x0 <;> cases yneg <;> simp at h ⊢ <;> omega
    · obtain ⟨cc, hcc, hc0⟩ : ∃ cc : Int, (if V W x1 < V W y then -1 else if V W x1 = V W y then 0 else 1) = cc ∧ 0 ≤ cc := by
        rw [if_neg h2]; split
        · exact ⟨0, rfl, by decide⟩
        · exact ⟨1, rfl, by decide⟩
      rw [hcc] at hc
      obtain ⟨l, q1, q2, q3, q4⟩ := sub_ev x1 y hx cx.1 cy (by omega)
      refine ⟨sgn x0 l, tl l, ?_, ?_, by have := tl_len l; omega⟩
      · simp (config := { implicitDefEqProofs := false, maxSteps := 2000000 }) (disch := omega) only [ps, ↓reduceIte, reduceCtorEq, Int.reduceLT, Int.reduceLE, Int.reduceEq, Nat.reduceLT, Nat.reduceLeDiff, Nat.reduceEqDiff, Int.reduceNeg, eitherK, h']
        refine Rn.bind hc ?_
        simp (config := { implicitDefEqProofs := false, maxSteps := 2000000 }) (disch := omega) only [ps, ↓reduceIte, reduceCtorEq, Int.reduceLT, Int.reduceLE, Int.reduceEq, Nat.reduceLT, Nat.reduceLeDiff, Nat.reduceEqDiff, Int.reduceNeg, eitherK]
        exact Rn.bind q1 (Rn.bind (hS _ l (by omega)) (Rn.pure _))
      · refine (sgn_nm (neg := x0) q2 q3).cast ?_
        cases x0 <;> cases yneg <;> simp at h ⊢ <;> omega
end Go.Proofs.Ytghdpmejgonjmaa.Am
