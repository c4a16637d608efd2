/- Plain reckoning: the program's own whole numbers: trim, sums, differences, comparing. -/
import Derived.Test.YtghdpmejgonjmaaPlV
import Derived.Test.YtghdpmejgonjmaaP01
set_option linter.unusedVariables false
set_option linter.unusedSimpArgs false
set_option maxRecDepth 10000
namespace Go.Proofs.Ytghdpmejgonjmaa.Am
open Go

/-- Words of the program: 32 bits. -/
abbrev W : Int := 4294967296
theorem Wpos (i : Nat) : (0 : Int) < W ^ i := Int.pow_pos (by decide)
/-- Not longer than memory. -/
def Sz (n : Nat) : Prop := n ≤ 35184372088000

theorem trim_loop (k : Nat) (w : List Int) (hl : w.length ≤ 140737488355328) : ∀ (i n : Nat), i ≤ w.length → i < n → Lbig_trim_0 k n w i = some (w, ((tl (w.take i)).length : Int)) := by
  intro i
  induction i with
  | zero =>
    intro n hi hn
    obtain ⟨n, rfl⟩ : ∃ m, n = m + 1 := ⟨n - 1, by omega⟩
    show Lbig_trim_0s k (Lbig_trim_0 k n) w _ = _
    unfold Lbig_trim_0s
    simp (config := { implicitDefEqProofs := false, maxSteps := 2000000 }) (disch := omega) only [ps, ↓reduceIte, reduceCtorEq, Int.reduceLT, Int.reduceLE, Int.reduceEq, Nat.reduceLT, Nat.reduceLeDiff, Nat.reduceEqDiff, Int.reduceNeg, eitherK]
    rfl
  | succ i ih =>
    intro n hi hn
    obtain ⟨n, rfl⟩ : ∃ m, n = m + 1 := ⟨n - 1, by omega⟩
    show Lbig_trim_0s k (Lbig_trim_0 k n) w _ = _
    unfold Lbig_trim_0s
    obtain ⟨x, hx⟩ := get_of (show i < w.length by omega)
    have h1 : (((i + 1 : Nat) : Int) - 1) = (i : Int) := by omega
    have ht : w.take (i + 1) = w.take i ++ [x] := by rw [List.take_add_one, hx]; rfl
    simp (config := { implicitDefEqProofs := false, maxSteps := 2000000 }) (disch := omega) only [ps, ↓reduceIte, reduceCtorEq, Int.reduceLT, Int.reduceLE, Int.reduceEq, Nat.reduceLT, Nat.reduceLeDiff, Nat.reduceEqDiff, Int.reduceNeg, eitherK, h1, hx]
    by_cases h : x = 0
    · simp (config := { implicitDefEqProofs := false, maxSteps := 2000000 }) (disch := omega) only [ps, ↓reduceIte, reduceCtorEq, Int.reduceLT, Int.reduceLE, Int.reduceEq, Nat.reduceLT, Nat.reduceLeDiff, Nat.reduceEqDiff, Int.reduceNeg, eitherK, h]
      rw [ih n (by omega) (by omega), ht, tl_snoc, if_pos h]
    · simp (config := { implicitDefEqProofs := false, maxSteps := 2000000 }) (disch := omega) only [ps, ↓reduceIte, reduceCtorEq, Int.reduceLT, Int.reduceLE, Int.reduceEq, Nat.reduceLT, Nat.reduceLeDiff, Nat.reduceEqDiff, Int.reduceNeg, eitherK, h]
      rw [ht, tl_snoc, if_neg h]
      simp
      omega
theorem trim_ev (w : List Int) (hl : w.length ≤ 140737488355328) : Rn (fun k => Fbig_trim k w) (tl w) := by
  refine Rn.eq (w.length + 2) fun k hk => ?_
  obtain ⟨k, rfl⟩ : ∃ m, k = m + 1 := ⟨k - 1, by omega⟩
  show bbig_trim k w = _
  unfold bbig_trim
  have := tl_len w
  rw [trim_loop k w hl w.length k (Nat.le_refl _) (by omega)]
  simp (config := { implicitDefEqProofs := false, maxSteps := 2000000 }) (disch := omega) only [ps, ↓reduceIte, reduceCtorEq, Int.reduceLT, Int.reduceLE, Int.reduceEq, Nat.reduceLT, Nat.reduceLeDiff, Nat.reduceEqDiff, Int.reduceNeg, eitherK, List.take_length, tl_take]

theorem cmp_loop (k : Nat) (a b : List Int) (hl : a.length = b.length) (hla : a.length ≤ 140737488355328) (ha : Dg W a) (hb : Dg W b) : ∀ (i n : Nat), i ≤ a.length → i < n → V W (a.drop i) = V W (b.drop i) →
    ∃ r, Lbig_cmp_0 k n a b ((i : Int) - 1) = some r ∧ (match r with | .inl c => c | .inr _ => 0) = (if V W a < V W b then -1 else if V W a = V W b then 0 else 1) := by
  intro i
  induction i with
  | zero =>
    intro n hi hn e
    obtain ⟨n, rfl⟩ : ∃ m, n = m + 1 := ⟨n - 1, by omega⟩
    refine ⟨.inr (), ?_, ?_⟩
    · show Lbig_cmp_0s k (Lbig_cmp_0 k n) a b _ = _
      unfold Lbig_cmp_0s
      simp (config := { implicitDefEqProofs := false, maxSteps := 2000000 }) (disch := omega) only [ps, ↓reduceIte, reduceCtorEq, Int.reduceLT, Int.reduceLE, Int.reduceEq, Nat.reduceLT, Nat.reduceLeDiff, Nat.reduceEqDiff, Int.reduceNeg, eitherK]
    · simp only [List.drop_zero] at e
      simp [e]
  | succ i ih =>
    intro n hi hn e
    obtain ⟨n, rfl⟩ : ∃ m, n = m + 1 := ⟨n - 1, by omega⟩
    obtain ⟨x, hx⟩ := get_of (show i < a.length by omega)
    obtain ⟨y, hy⟩ := get_of (show i < b.length by omega)
    have h1 : (((i + 1 : Nat) : Int) - 1) = (i : Int) := by omega
    have hxb := ha.get hx
    have hyb := hb.get hy
    have sa := V_split (B := W) a i (by omega)
    have sb := V_split (B := W) b i (by omega)
    have la : V W (a.take i) < W ^ i := by have := V_lt (B := W) (by decide) (ha.take i); rwa [List.length_take, Nat.min_eq_left (by omega)] at this
    have lb : V W (b.take i) < W ^ i := by have := V_lt (B := W) (by decide) (hb.take i); rwa [List.length_take, Nat.min_eq_left (by omega)] at this
    have na := V_nonneg (B := W) (by decide) (ha.take i)
    have nb := V_nonneg (B := W) (by decide) (hb.take i)
    rw [V_drop hx, e] at sa
    rw [V_drop hy] at sb
    by_cases h : x = y
    · subst h
      obtain ⟨r, h2, h3⟩ := ih n (by omega) (by omega) (by rw [V_drop hx, V_drop hy, e])
      refine ⟨r, ?_, h3⟩
      show Lbig_cmp_0s k (Lbig_cmp_0 k n) a b _ = _
      unfold Lbig_cmp_0s
      simp (config := { implicitDefEqProofs := false, maxSteps := 2000000 }) (disch := omega) only [ps, ↓reduceIte, reduceCtorEq, Int.reduceLT, Int.reduceLE, Int.reduceEq, Nat.reduceLT, Nat.reduceLeDiff, Nat.reduceEqDiff, Int.reduceNeg, eitherK, h1, hx, hy, h2]
    · have hP := Wpos i
      by_cases h2 : x < y
      · have hlt : V W a < V W b := by
          have : W ^ i * (x + 1) ≤ W ^ i * y := Int.mul_le_mul_of_nonneg_left (by omega) (by omega)
          rw [sa, sb]
          grind
        refine ⟨.inl (-1), ?_, by rw [if_pos hlt]⟩
        show Lbig_cmp_0s k (Lbig_cmp_0 k n) a b _ = _
        unfold Lbig_cmp_0s
        simp (config := { implicitDefEqProofs := false, maxSteps := 2000000 }) (disch := omega) only [ps, ↓reduceIte, reduceCtorEq, Int.reduceLT, Int.reduceLE, Int.reduceEq, Nat.reduceLT, Nat.reduceLeDiff, Nat.reduceEqDiff, Int.reduceNeg, eitherK, h1, hx, hy, h, h2]
      · have hlt : V W b < V W a := by
          have : W ^ i * (y + 1) ≤ W ^ i * x := Int.mul_le_mul_of_nonneg_left (by omega) (by omega)
          rw [sa, sb]
          grind
        refine ⟨.inl 1, ?_, by rw [if_neg (by omega), if_neg (by omega)]⟩
        show Lbig_cmp_0s k (Lbig_cmp_0 k n) a b _ = _
        unfold Lbig_cmp_0s
        simp (config := { implicitDefEqProofs := false, maxSteps := 2000000 }) (disch := omega) only [ps, ↓reduceIte, reduceCtorEq, Int.reduceLT, Int.reduceLE, Int.reduceEq, Nat.reduceLT, Nat.reduceLeDiff, Nat.reduceEqDiff, Int.reduceNeg, eitherK, h1, hx, hy, h, h2]
theorem cmp_ev (a b : List Int) (hla : a.length ≤ 140737488355328) (hlb : b.length ≤ 140737488355328) (ha : Cn W a) (hb : Cn W b) : Rn (fun k => Fbig_cmp k a b) (if V W a < V W b then -1 else if V W a = V W b then 0 else 1) := by
  refine Rn.eq (a.length + 2) fun k hk => ?_
  obtain ⟨k, rfl⟩ : ∃ m, k = m + 1 := ⟨k - 1, by omega⟩
  show bbig_cmp k a b = _
  unfold bbig_cmp
  by_cases h : a.length = b.length
  · obtain ⟨r, h1, h2⟩ := cmp_loop k a b h hla ha.1 hb.1 a.length k (Nat.le_refl _) (by omega) (by rw [List.drop_length, h, List.drop_length])
    simp (config := { implicitDefEqProofs := false, maxSteps := 2000000 }) (disch := omega) only [ps, ↓reduceIte, reduceCtorEq, Int.reduceLT, Int.reduceLE, Int.reduceEq, Nat.reduceLT, Nat.reduceLeDiff, Nat.reduceEqDiff, Int.reduceNeg, eitherK, h1]
    rw [← h2]
    cases r <;> simp [eitherK]
  · by_cases h2 : a.length < b.length
    · have := Cn.len_lt (by decide) ha hb h2
      simp (config := { implicitDefEqProofs := false, maxSteps := 2000000 }) (disch := omega) only [ps, ↓reduceIte, reduceCtorEq, Int.reduceLT, Int.reduceLE, Int.reduceEq, Nat.reduceLT, Nat.reduceLeDiff, Nat.reduceEqDiff, Int.reduceNeg, eitherK, h, h2]
    · have := Cn.len_lt (by decide) hb ha (by omega)
      simp (config := { implicitDefEqProofs := false, maxSteps := 2000000 }) (disch := omega) only [ps, ↓reduceIte, reduceCtorEq, Int.reduceLT, Int.reduceLE, Int.reduceEq, Nat.reduceLT, Nat.reduceLeDiff, Nat.reduceEqDiff, Int.reduceNeg, eitherK, h, h2]

theorem add_loop (k : Nat) (a b : List Int) (hba : b.length ≤ a.length) (hla : a.length ≤ 35184372088000) (ha : Dg W a) (hb : Dg W b) : ∀ (d i n : Nat) (carry : Int) (outs : List Int), i + d = a.length → d < n → 0 ≤ carry ∧ carry ≤ 1 → outs.length = a.length + 1 → Dg W outs →
    V W (outs.take i) + carry * W ^ i = V W (a.take i) + V W (b.take i) →
    ∃ carry' outs', Lbig_add_0 k n a b (a.length + 1) carry a.length i outs = some (a, a.length + 1, carry', outs') ∧ (0 ≤ carry' ∧ carry' ≤ 1) ∧ outs'.length = a.length + 1 ∧ Dg W outs' ∧ V W (outs'.take a.length) + carry' * W ^ a.length = V W a + V W b := by
  intro d
  induction d with
  | zero =>
    intro i n carry outs hi hn hc hl hd e
    obtain ⟨n, rfl⟩ : ∃ m, n = m + 1 := ⟨n - 1, by omega⟩
    have hia : i = a.length := by omega
    subst hia
    refine ⟨carry, outs, ?_, hc, hl, hd, ?_⟩
    · show Lbig_add_0s k (Lbig_add_0 k n) a b _ _ _ _ _ = _
      unfold Lbig_add_0s
      simp (config := { implicitDefEqProofs := false, maxSteps := 2000000 }) (disch := omega) only [ps, ↓reduceIte, reduceCtorEq, Int.reduceLT, Int.reduceLE, Int.reduceEq, Nat.reduceLT, Nat.reduceLeDiff, Nat.reduceEqDiff, Int.reduceNeg, eitherK]
    · rw [e, List.take_length, List.take_of_length_le hba]
  | succ d ih =>
    intro i n carry outs hi hn hc hl hd e
    obtain ⟨n, rfl⟩ : ∃ m, n = m + 1 := ⟨n - 1, by omega⟩
    obtain ⟨x, hx⟩ := get_of (show i < a.length by omega)
    obtain ⟨o, ho⟩ := get_of (show i < outs.length by omega)
    have hxb := ha.get hx
    have h1 : ((i : Int) + 1) = ((i + 1 : Nat) : Int) := rfl
    have ta := V_take_succ (B := W) hx
    have key : ∀ (y : Int), (0 ≤ y ∧ y < W) → V W (b.take (i + 1)) = V W (b.take i) + W ^ i * y → ∃ carry' outs', Lbig_add_0 k n a b (a.length + 1) ((x + carry + y) / W) a.length ((i + 1 : Nat) : Int) (outs.set i ((x + carry + y) % W)) = some (a, a.length + 1, carry', outs') ∧ (0 ≤ carry' ∧ carry' ≤ 1) ∧ outs'.length = a.length + 1 ∧ Dg W outs' ∧ V W (outs'.take a.length) + carry' * W ^ a.length = V W a + V W b := by
      intro y hy tb
      have hdm := Int.emod_add_mul_ediv (x + carry + y) W
      refine ih (i + 1) n _ _ (by omega) (by omega) ?_ (by simpa using hl) (hd.set i ?_) ?_
      · unfold W at *; omega
      · unfold W at *; omega
      · rw [set_take_succ _ _ _ (by omega), V_snoc, List.length_take, Nat.min_eq_left (by omega), ta, tb, Int.pow_succ]
        grind
    show ∃ carry' outs', Lbig_add_0s k (Lbig_add_0 k n) a b _ _ _ _ _ = _ ∧ _
    unfold Lbig_add_0s
    by_cases hb2 : i < b.length
    · obtain ⟨y, hy⟩ := get_of hb2
      have hyb := hb.get hy
      obtain ⟨c', o', q1, q2⟩ := key y hyb (V_take_succ hy)
      refine ⟨c', o', ?_, q2⟩
      rw [← q1]
      unfold W at hxb hyb
      simp (config := { implicitDefEqProofs := false, maxSteps := 2000000 }) (disch := omega) only [ps, ↓reduceIte, reduceCtorEq, Int.reduceLT, Int.reduceLE, Int.reduceEq, Nat.reduceLT, Nat.reduceLeDiff, Nat.reduceEqDiff, Int.reduceNeg, eitherK, hx, hy, ho, h1, fdiv_pos, wrap_u32]
    · obtain ⟨c', o', q1, q2⟩ := key 0 (by decide) (by rw [List.take_of_length_le (by omega), List.take_of_length_le (by omega)]; simp)
      refine ⟨c', o', ?_, q2⟩
      rw [← q1]
      unfold W at hxb
      simp (config := { implicitDefEqProofs := false, maxSteps := 2000000 }) (disch := omega) only [ps, ↓reduceIte, reduceCtorEq, Int.reduceLT, Int.reduceLE, Int.reduceEq, Nat.reduceLT, Nat.reduceLeDiff, Nat.reduceEqDiff, Int.reduceNeg, eitherK, hx, ho, h1, fdiv_pos, wrap_u32, Int.add_zero]
end Go.Proofs.Ytghdpmejgonjmaa.Am
