/- Plain reckoning: the reference's whole numbers: differences, comparing, signed sums; taken from limbs and given back. -/
import Derived.Test.YtghdpmejgonjmaaPlR1
import Derived.Test.YtghdpmejgonjmaaPlC
set_option linter.unusedVariables false
set_option linter.unusedSimpArgs false
set_option maxRecDepth 10000
namespace Go.Proofs.Ytghdpmejgonjmaa.Am
open Go

theorem mags_loop (k : Nat) (a b : List Int) (hl : a.length = b.length) (hla : a.length ≤ 140737488355328) (ha : Dg U a) (hb : Dg U b) : ∀ (i n : Nat), i ≤ a.length → i < n → V U (a.drop i) = V U (b.drop i) →
    ∃ r, Lshuntref01_mags_0 k n a b ((i : Int) - 1) = some r ∧ (match r with | .inl c => c | .inr _ => 0) = cmpZ (V U a) (V U b) := by
  intro i
  induction i with
  | zero =>
    intro n hi hn e
    obtain ⟨n, rfl⟩ : ∃ m, n = m + 1 := ⟨n - 1, by omega⟩
    refine ⟨.inr (), ?_, ?_⟩
    · show Lshuntref01_mags_0s k (Lshuntref01_mags_0 k n) a b _ = _
      unfold Lshuntref01_mags_0s
      simp (config := { implicitDefEqProofs := false, maxSteps := 2000000 }) (disch := omega) only [ps, ↓reduceIte, reduceCtorEq, Int.reduceLT, Int.reduceLE, Int.reduceEq, Nat.reduceLT, Nat.reduceLeDiff, Nat.reduceEqDiff, Int.reduceNeg, eitherK]
    · simp only [List.drop_zero] at e
      simp [e, cmpZ]
  | succ i ih =>
    intro n hi hn e
    obtain ⟨n, rfl⟩ : ∃ m, n = m + 1 := ⟨n - 1, by omega⟩
    obtain ⟨x, hx⟩ := get_of (show i < a.length by omega)
    obtain ⟨y, hy⟩ := get_of (show i < b.length by omega)
    have h1 : (((i + 1 : Nat) : Int) - 1) = (i : Int) := by omega
    have hxb := ha.get hx
    have hyb := hb.get hy
    have sa := V_split (B := U) a i (by omega)
    have sb := V_split (B := U) b i (by omega)
    have la : V U (a.take i) < U ^ i := by have := V_lt (B := U) (by decide) (ha.take i); rwa [List.length_take, Nat.min_eq_left (by omega)] at this
    have lb : V U (b.take i) < U ^ i := by have := V_lt (B := U) (by decide) (hb.take i); rwa [List.length_take, Nat.min_eq_left (by omega)] at this
    have na := V_nonneg (B := U) (by decide) (ha.take i)
    have nb := V_nonneg (B := U) (by decide) (hb.take i)
    rw [V_drop hx, e] at sa
    rw [V_drop hy] at sb
    by_cases h : x = y
    · subst h
      obtain ⟨r, h2, h3⟩ := ih n (by omega) (by omega) (by rw [V_drop hx, V_drop hy, e])
      refine ⟨r, ?_, h3⟩
      show Lshuntref01_mags_0s k (Lshuntref01_mags_0 k n) a b _ = _
      unfold Lshuntref01_mags_0s
      simp (config := { implicitDefEqProofs := false, maxSteps := 2000000 }) (disch := omega) only [ps, ↓reduceIte, reduceCtorEq, Int.reduceLT, Int.reduceLE, Int.reduceEq, Nat.reduceLT, Nat.reduceLeDiff, Nat.reduceEqDiff, Int.reduceNeg, eitherK, h1, hx, hy, h2]
    · have hP := Upos i
      by_cases h2 : x < y
      · have hlt : V U a < V U b := by
          have : U ^ i * (x + 1) ≤ U ^ i * y := Int.mul_le_mul_of_nonneg_left (by omega) (by omega)
          rw [sa, sb]
          grind
        refine ⟨.inl (-1), ?_, by simp only [cmpZ]; rw [if_pos hlt]⟩
        show Lshuntref01_mags_0s k (Lshuntref01_mags_0 k n) a b _ = _
        unfold Lshuntref01_mags_0s
        simp (config := { implicitDefEqProofs := false, maxSteps := 2000000 }) (disch := omega) only [ps, ↓reduceIte, reduceCtorEq, Int.reduceLT, Int.reduceLE, Int.reduceEq, Nat.reduceLT, Nat.reduceLeDiff, Nat.reduceEqDiff, Int.reduceNeg, eitherK, h1, hx, hy, h, h2]
      · have hlt : V U b < V U a := by
          have : U ^ i * (y + 1) ≤ U ^ i * x := Int.mul_le_mul_of_nonneg_left (by omega) (by omega)
          rw [sa, sb]
          grind
        refine ⟨.inl 1, ?_, by simp only [cmpZ]; rw [if_neg (by omega), if_neg (by omega)]⟩
        show Lshuntref01_mags_0s k (Lshuntref01_mags_0 k n) a b _ = _
        unfold Lshuntref01_mags_0s
        simp (config := { implicitDefEqProofs := false, maxSteps := 2000000 }) (disch := omega) only [ps, ↓reduceIte, reduceCtorEq, Int.reduceLT, Int.reduceLE, Int.reduceEq, Nat.reduceLT, Nat.reduceLeDiff, Nat.reduceEqDiff, Int.reduceNeg, eitherK, h1, hx, hy, h, h2]
theorem mags_ev (a b : List Int) (hla : a.length ≤ 140737488355328) (hlb : b.length ≤ 140737488355328) (ha : Cn U a) (hb : Cn U b) : Rn (fun k => Fshuntref01_mags k a b) (cmpZ (V U a) (V U b)) := by
  refine Rn.eq (a.length + 2) fun k hk => ?_
  obtain ⟨k, rfl⟩ : ∃ m, k = m + 1 := ⟨k - 1, by omega⟩
  show bshuntref01_mags k a b = _
  unfold bshuntref01_mags
  by_cases h : a.length = b.length
  · obtain ⟨r, h1, h2⟩ := mags_loop k a b h hla ha.1 hb.1 a.length k (Nat.le_refl _) (by omega) (by rw [List.drop_length, h, List.drop_length])
    simp (config := { implicitDefEqProofs := false, maxSteps := 2000000 }) (disch := omega) only [ps, ↓reduceIte, reduceCtorEq, Int.reduceLT, Int.reduceLE, Int.reduceEq, Nat.reduceLT, Nat.reduceLeDiff, Nat.reduceEqDiff, Int.reduceNeg, eitherK, h1]
    rw [← h2]
    cases r <;> simp [eitherK]
  · unfold cmpZ
    by_cases h2 : a.length < b.length
    · have := Cn.len_lt (by decide) ha hb h2
      simp (config := { implicitDefEqProofs := false, maxSteps := 2000000 }) (disch := omega) only [ps, ↓reduceIte, reduceCtorEq, Int.reduceLT, Int.reduceLE, Int.reduceEq, Nat.reduceLT, Nat.reduceLeDiff, Nat.reduceEqDiff, Int.reduceNeg, eitherK, h, h2]
    · have := Cn.len_lt (by decide) hb ha (by omega)
      simp (config := { implicitDefEqProofs := false, maxSteps := 2000000 }) (disch := omega) only [ps, ↓reduceIte, reduceCtorEq, Int.reduceLT, Int.reduceLE, Int.reduceEq, Nat.reduceLT, Nat.reduceLeDiff, Nat.reduceEqDiff, Int.reduceNeg, eitherK, h, h2]

theorem minus_loop (k : Nat) (a b : List Int) (hba : b.length ≤ a.length) (hla : a.length ≤ 1000000000) (ha : Dg U a) (hb : Dg U b) :
    ∀ (d i n : Nat) (borrow : Int) (ds : List Int), i + d = a.length → d < n → 0 ≤ borrow ∧ borrow ≤ 1 → ds.length = i → Dg U ds →
    V U ds = V U (a.take i) - V U (b.take i) + borrow * U ^ i →
    ∃ b' ds', Lshuntref01_minus_0 k n a b i borrow i ds = some (ds'.length, ds') ∧ (0 ≤ b' ∧ b' ≤ 1) ∧ Dg U ds' ∧ ds'.length = a.length ∧ V U ds' = V U a - V U b + b' * U ^ a.length := by
  intro d
  induction d with
  | zero =>
    intro i n borrow ds hi hn hc hl hd e
    obtain ⟨n, rfl⟩ : ∃ m, n = m + 1 := ⟨n - 1, by omega⟩
    have hia : i = a.length := by omega
    subst hia
    refine ⟨borrow, ds, ?_, hc, hd, hl, ?_⟩
    · show Lshuntref01_minus_0s k (Lshuntref01_minus_0 k n) _ _ _ _ _ _ = _
      unfold Lshuntref01_minus_0s
      simp (config := { implicitDefEqProofs := false, maxSteps := 2000000 }) (disch := omega) only [ps, ↓reduceIte, reduceCtorEq, Int.reduceLT, Int.reduceLE, Int.reduceEq, Nat.reduceLT, Nat.reduceLeDiff, Nat.reduceEqDiff, Int.reduceNeg, eitherK]
      rw [hl]
    · rwa [List.take_length, List.take_of_length_le hba] at e
  | succ d ih =>
    intro i n borrow ds hi hn hc hl hd e
    obtain ⟨n, rfl⟩ : ∃ m, n = m + 1 := ⟨n - 1, by omega⟩
    obtain ⟨x, hx⟩ := get_of (show i < a.length by omega)
    have ba := ha.get hx
    have tb := V_take_getD (B := U) b i
    have bb := hb.getD (by decide) i
    have ta := V_take_succ (B := U) hx
    have h1 : ((i : Int) + 1) = ((i + 1 : Nat) : Int) := rfl
    have ht : ds.take i = ds := List.take_of_length_le (by omega)
    generalize hy : b[i]?.getD 0 = y at tb bb
    have key : ∀ (z b1 : Int), 0 ≤ z ∧ z < U → z = x - borrow - y + b1 * U → 0 ≤ b1 ∧ b1 ≤ 1 →
        ∃ b' ds', Lshuntref01_minus_0 k n a b (i + 1) b1 ((i + 1 : Nat) : Int) (ds ++ [z]) = some (ds'.length, ds') ∧ (0 ≤ b' ∧ b' ≤ 1) ∧ Dg U ds' ∧ ds'.length = a.length ∧ V U ds' = V U a - V U b + b' * U ^ a.length := by
      intro z b1 hz hzz hb1
      refine ih (i + 1) n _ _ (by omega) (by omega) hb1 (by simp [hl]) (hd.snoc hz) ?_
      rw [V_snoc, hl, ta, tb, Int.pow_succ]
      grind
    unfold U at ba bb
    by_cases hneg : x - borrow - y < 0
    · obtain ⟨b', ds', q1, q2⟩ := key (x - borrow - y + 65536) 1 (by unfold U; omega) (by unfold U; omega) (by decide)
      refine ⟨b', ds', ?_, q2⟩
      rw [← q1]
      show Lshuntref01_minus_0s k (Lshuntref01_minus_0 k n) _ _ _ _ _ _ = _
      unfold Lshuntref01_minus_0s
      by_cases h3 : i < b.length
      · have hy' : b[i]? = some y := by obtain ⟨z, hz⟩ := get_of h3; rw [hz] at hy ⊢; simpa using hy
        simp (config := { implicitDefEqProofs := false, maxSteps := 2000000 }) (disch := omega) only [ps, ↓reduceIte, reduceCtorEq, Int.reduceLT, Int.reduceLE, Int.reduceEq, Nat.reduceLT, Nat.reduceLeDiff, Nat.reduceEqDiff, Int.reduceNeg, eitherK, hx, hy', h1, hl, ht, List.take_succ_cons, List.length_cons]
      · have hy' : y = 0 := by rw [← hy, List.getElem?_eq_none (by omega)]; rfl
        subst hy'
        simp (config := { implicitDefEqProofs := false, maxSteps := 2000000 }) (disch := omega) only [ps, ↓reduceIte, reduceCtorEq, Int.reduceLT, Int.reduceLE, Int.reduceEq, Nat.reduceLT, Nat.reduceLeDiff, Nat.reduceEqDiff, Int.reduceNeg, eitherK, hx, h1, hl, ht, List.take_succ_cons, List.length_cons, Int.sub_zero]
    · obtain ⟨b', ds', q1, q2⟩ := key (x - borrow - y) 0 (by unfold U; omega) (by unfold U; omega) (by decide)
      refine ⟨b', ds', ?_, q2⟩
      rw [← q1]
      show Lshuntref01_minus_0s k (Lshuntref01_minus_0 k n) _ _ _ _ _ _ = _
      unfold Lshuntref01_minus_0s
      by_cases h3 : i < b.length
      · have hy' : b[i]? = some y := by obtain ⟨z, hz⟩ := get_of h3; rw [hz] at hy ⊢; simpa using hy
        simp (config := { implicitDefEqProofs := false, maxSteps := 2000000 }) (disch := omega) only [ps, ↓reduceIte, reduceCtorEq, Int.reduceLT, Int.reduceLE, Int.reduceEq, Nat.reduceLT, Nat.reduceLeDiff, Nat.reduceEqDiff, Int.reduceNeg, eitherK, hx, hy', h1, hl, ht, List.take_succ_cons, List.length_cons]
      · have hy' : y = 0 := by rw [← hy, List.getElem?_eq_none (by omega)]; rfl
        subst hy'
        simp (config := { implicitDefEqProofs := false, maxSteps := 2000000 }) (disch := omega) only [ps, ↓reduceIte, reduceCtorEq, Int.reduceLT, Int.reduceLE, Int.reduceEq, Nat.reduceLT, Nat.reduceLeDiff, Nat.reduceEqDiff, Int.reduceNeg, eitherK, hx, h1, hl, ht, List.take_succ_cons, List.length_cons, Int.sub_zero]
theorem rtrim_eq (ds : List Int) (hl : ds.length ≤ 10000000000) (k : Nat) (hk : ds.length + 2 ≤ k) : Fshuntref01_trim_mfi k ds.length ds = some ((tl ds).length, ds) := by
  obtain ⟨k, rfl⟩ : ∃ m, k = m + 1 := ⟨k - 1, by omega⟩
  show bshuntref01_trim_mfi k ds.length ds = _
  unfold bshuntref01_trim_mfi
  have := tl_len ds
  rw [rtrim_loop k ds hl ds.length k ds.length (Nat.le_refl _) (Nat.le_refl _) (by omega), List.take_length]
  simp (config := { implicitDefEqProofs := false, maxSteps := 2000000 }) (disch := omega) only [ps, ↓reduceIte, reduceCtorEq, Int.reduceLT, Int.reduceLE, Int.reduceEq, Nat.reduceLT, Nat.reduceLeDiff, Nat.reduceEqDiff, Int.reduceNeg, eitherK]
theorem minus_ev (a b : List Int) (hla : a.length ≤ 1000000000) (ha : Dg U a) (hb : Cn U b) (h : V U b ≤ V U a) :
    ∃ l, Rn (fun k => Fshuntref01_minus k a b) l ∧ Cn U l ∧ V U l = V U a - V U b ∧ l.length ≤ a.length := by
  have hba : b.length ≤ a.length := by
    refine (hb.len_le (by decide) _).2 ?_
    have := V_lt (B := U) (by decide) ha
    omega
  have hB := V_nonneg (B := U) (by decide) hb.1
  have main := Cn.uniq (B := U) (v := V U a - V U b) (L := a.length) (f := fun k => Fshuntref01_minus (k + 1) a b) (by decide) (a.length + 3) fun k hk => by
    obtain ⟨c, ds, q1, q2, q3, q4, q5⟩ := minus_loop k a b hba hla ha hb.1 a.length 0 k 0 [] (by omega) (by omega) (by decide) rfl Dg.nil (by simp [V])
    have hc : c = 0 := by
      have p1 := V_lt (B := U) (by decide) q3
      rw [q4] at p1
      rcases (by omega : c = 0 ∨ c = 1) with h | h
      · exact h
      · subst h; omega
    subst hc
    have := tl_len ds
    refine ⟨tl ds, ?_, Cn.of q3, by rw [V_tl, q5]; simp, by omega⟩
    show bshuntref01_minus k a b = _
    unfold bshuntref01_minus
    have q1' : Lshuntref01_minus_0 k k a b 0 0 0 [] = some (ds.length, ds) := q1
    rw [q1', Option.bind_some]
    simp only []
    rw [rtrim_eq ds (by omega) k (by omega), Option.bind_some]
    simp (config := { implicitDefEqProofs := false, maxSteps := 2000000 }) (disch := omega) only [ps, ↓reduceIte, reduceCtorEq, Int.reduceLT, Int.reduceLE, Int.reduceEq, Nat.reduceLT, Nat.reduceLeDiff, Nat.reduceEqDiff, Int.reduceNeg, eitherK]
    rw [tl_take]
  obtain ⟨l, h1, h2⟩ := main
  exact ⟨l, Rn.up (f := fun k => Fshuntref01_minus k a b) h1, h2⟩

/-- A sign of canonical words. -/
theorem nm_pos {B : Int} {l : List Int} (h : Cn B l) {z : Int} (e : V B l = z) : Nm B false l z := ⟨h, fun h => (by cases h), by simpa using e⟩
theorem nm_sg {B : Int} {a0 : Bool} {l : List Int} (h : Cn B l) {v : Int} (e : V B l = v) : Nm B (if a0 then decide (0 < l.length) else false) l (if a0 then -v else v) := by
  cases a0
  · exact nm_pos h e
  · refine ⟨h, fun hs h0 => ?_, ?_⟩
    · rw [h0] at hs; simp at hs
    · cases l with
      | nil => simp [V] at e ⊢; omega
      | cons x r => simp [e]
theorem Plus_ev (a0 b0 : Bool) (a1 b1 : List Int) {x y : Int} (nx : Nm U a0 a1 x) (ny : Nm U b0 b1 y) (hx : a1.length ≤ 1000000000) (hy : b1.length ≤ 1000000000) :
    ∃ s l, Rn (fun k => Fshuntref01_Plus k a0 a1 b0 b1) (s, l) ∧ Nm U s l (x + y) ∧ l.length ≤ max a1.length b1.length + 1 := by
  have hdec : ∀ l : List Int, decide ((0 : Int) < (l.length : Int)) = decide (0 < l.length) := fun l => by congr 1; simp
  have zx := nx.z
  have zy := ny.z
  by_cases h : a0 = b0
  · subst h
    obtain ⟨l, h1, h2, h3, h4⟩ := plus_ev a1 b1 hx hy nx.c.1 ny.c.1
    refine ⟨if a0 then decide (0 < l.length) else false, l, ?_, (nm_sg (a0 := a0) h2 h3).cast ?_, h4⟩
    · refine Rn.up (f := fun k => Fshuntref01_Plus k a0 a1 a0 b1) ?_
      show Rn (fun k => bshuntref01_Plus k a0 a1 a0 b1) _
      unfold bshuntref01_Plus
      (first | (refine Rn.t ?hc ?_; case hc => simp (config := { implicitDefEqProofs := false, maxSteps := 2000000 }) (disch := omega) only [ps, ↓reduceIte, reduceCtorEq, Int.reduceLT, Int.reduceLE, Int.reduceEq, Nat.reduceLT, Nat.reduceLeDiff, Nat.reduceEqDiff, Int.reduceNeg, eitherK]) | (refine Rn.f ?hc ?_; case hc => simp (config := { implicitDefEqProofs := false, maxSteps := 2000000 }) (disch := omega) only [ps, ↓reduceIte, reduceCtorEq, Int.reduceLT, Int.reduceLE, Int.reduceEq, Nat.reduceLT, Nat.reduceLeDiff, Nat.reduceEqDiff, Int.reduceNeg, eitherK]))
      refine Rn.bind h1 ?_
      cases a0
      · (first | (refine Rn.t ?hc ?_; case hc => simp (config := { implicitDefEqProofs := false, maxSteps := 2000000 }) (disch := omega) only [ps, ↓reduceIte, reduceCtorEq, Int.reduceLT, Int.reduceLE, Int.reduceEq, Nat.reduceLT, Nat.reduceLeDiff, Nat.reduceEqDiff, Int.reduceNeg, eitherK]) | (refine Rn.f ?hc ?_; case hc => simp (config := { implicitDefEqProofs := false, maxSteps := 2000000 }) (disch := omega) only [ps, ↓reduceIte, reduceCtorEq, Int.reduceLT, Int.reduceLE, Int.reduceEq, Nat.reduceLT, Nat.reduceLeDiff, Nat.reduceEqDiff, Int.reduceNeg, eitherK])); exact Rn.pure _
      · (first | (refine Rn.t ?hc ?_; case hc => simp (config := { implicitDefEqProofs := false, maxSteps := 2000000 }) (disch := omega) only [ps, ↓reduceIte, reduceCtorEq, Int.reduceLT, Int.reduceLE, Int.reduceEq, Nat.reduceLT, Nat.reduceLeDiff, Nat.reduceEqDiff, Int.reduceNeg, eitherK]) | (refine Rn.f ?hc ?_; case hc => simp (config := { implicitDefEqProofs := false, maxSteps := 2000000 }) (disch := omega) only [ps, ↓reduceIte, reduceCtorEq, Int.reduceLT, Int.reduceLE, Int.reduceEq, Nat.reduceLT, Nat.reduceLeDiff, Nat.reduceEqDiff, Int.reduceNeg, eitherK])); simp only [gt_iff_lt, hdec]; exact Rn.pure _
    · cases a0 <;> simp at zx zy ⊢ <;> omega
  · have h' : (a0 == b0) = false := by simpa using h
    obtain ⟨c, e1, f1⟩ := cmpZ_cases (V U a1) (V U b1)
    have hc := mags_ev a1 b1 (by omega) (by omega) nx.c ny.c
    rw [e1] at hc
    by_cases h2 : 0 ≤ c
    · obtain ⟨l, q1, q2, q3, q4⟩ := minus_ev a1 b1 hx nx.c.1 ny.c (by omega)
      refine ⟨if a0 then decide (0 < l.length) else false, l, ?_, (nm_sg (a0 := a0) q2 q3).cast ?_, by omega⟩
      · refine Rn.up (f := fun k => Fshuntref01_Plus k a0 a1 b0 b1) ?_
        show Rn (fun k => bshuntref01_Plus k a0 a1 b0 b1) _
        unfold bshuntref01_Plus
        (first | (refine Rn.t ?hc ?_; case hc => simp (config := { implicitDefEqProofs := false, maxSteps := 2000000 }) (disch := omega) only [ps, ↓reduceIte, reduceCtorEq, Int.reduceLT, Int.reduceLE, Int.reduceEq, Nat.reduceLT, Nat.reduceLeDiff, Nat.reduceEqDiff, Int.reduceNeg, eitherK, h']) | (refine Rn.f ?hc ?_; case hc => simp (config := { implicitDefEqProofs := false, maxSteps := 2000000 }) (disch := omega) only [ps, ↓reduceIte, reduceCtorEq, Int.reduceLT, Int.reduceLE, Int.reduceEq, Nat.reduceLT, Nat.reduceLeDiff, Nat.reduceEqDiff, Int.reduceNeg, eitherK, h']))
        refine Rn.bind hc ?_
        (first | (refine Rn.t ?hc ?_; case hc => simp (config := { implicitDefEqProofs := false, maxSteps := 2000000 }) (disch := omega) only [ps, ↓reduceIte, reduceCtorEq, Int.reduceLT, Int.reduceLE, Int.reduceEq, Nat.reduceLT, Nat.reduceLeDiff, Nat.reduceEqDiff, Int.reduceNeg, eitherK]) | (refine Rn.f ?hc ?_; case hc => simp (config := { implicitDefEqProofs := false, maxSteps := 2000000 }) (disch := omega) only [ps, ↓reduceIte, reduceCtorEq, Int.reduceLT, Int.reduceLE, Int.reduceEq, Nat.reduceLT, Nat.reduceLeDiff, Nat.reduceEqDiff, Int.reduceNeg, eitherK]))
        refine Rn.bind q1 ?_
        cases a0
        · (first | (refine Rn.t ?hc ?_; case hc => simp (config := { implicitDefEqProofs := false, maxSteps := 2000000 }) (disch := omega) only [ps, ↓reduceIte, reduceCtorEq, Int.reduceLT, Int.reduceLE, Int.reduceEq, Nat.reduceLT, Nat.reduceLeDiff, Nat.reduceEqDiff, Int.reduceNeg, eitherK]) | (refine Rn.f ?hc ?_; case hc => simp (config := { implicitDefEqProofs := false, maxSteps := 2000000 }) (disch := omega) only [ps, ↓reduceIte, reduceCtorEq, Int.reduceLT, Int.reduceLE, Int.reduceEq, Nat.reduceLT, Nat.reduceLeDiff, Nat.reduceEqDiff, Int.reduceNeg, eitherK])); exact Rn.pure _
        · (first | (refine Rn.t ?hc ?_; case hc => simp (config := { implicitDefEqProofs := false, maxSteps := 2000000 }) (disch := omega) only [ps, ↓reduceIte, reduceCtorEq, Int.reduceLT, Int.reduceLE, Int.reduceEq, Nat.reduceLT, Nat.reduceLeDiff, Nat.reduceEqDiff, Int.reduceNeg, eitherK]) | (refine Rn.f ?hc ?_; case hc => simp (config := { implicitDefEqProofs := false, maxSteps := 2000000 }) (disch := omega) only [ps, ↓reduceIte, reduceCtorEq, Int.reduceLT, Int.reduceLE, Int.reduceEq, Nat.reduceLT, Nat.reduceLeDiff, Nat.reduceEqDiff, Int.reduceNeg, eitherK])); simp only [gt_iff_lt, hdec]; exact Rn.pure _
      · cases a0 <;> cases b0 <;> simp at h zx zy ⊢ <;> omega
    · obtain ⟨l, q1, q2, q3, q4⟩ := minus_ev b1 a1 hy ny.c.1 nx.c (by omega)
      have hne : l ≠ [] := by rintro rfl; simp [V] at q3; omega
      refine ⟨b0, l, ?_, ⟨q2, fun _ => hne, ?_⟩, by omega⟩
      · refine Rn.up (f := fun k => Fshuntref01_Plus k a0 a1 b0 b1) ?_
        show Rn (fun k => bshuntref01_Plus k a0 a1 b0 b1) _
        unfold bshuntref01_Plus
        (first | (refine Rn.t ?hc ?_; case hc => simp (config := { implicitDefEqProofs := false, maxSteps := 2000000 }) (disch := omega) only [ps, ↓reduceIte, reduceCtorEq, Int.reduceLT, Int.reduceLE, Int.reduceEq, Nat.reduceLT, Nat.reduceLeDiff, Nat.reduceEqDiff, Int.reduceNeg, eitherK, h']) | (refine Rn.f ?hc ?_; case hc => simp (config := { implicitDefEqProofs := false, maxSteps := 2000000 }) (disch := omega) only [ps, ↓reduceIte, reduceCtorEq, Int.reduceLT, Int.reduceLE, Int.reduceEq, Nat.reduceLT, Nat.reduceLeDiff, Nat.reduceEqDiff, Int.reduceNeg, eitherK, h']))
        refine Rn.bind hc ?_
        (first | (refine Rn.t ?hc ?_; case hc => simp (config := { implicitDefEqProofs := false, maxSteps := 2000000 }) (disch := omega) only [ps, ↓reduceIte, reduceCtorEq, Int.reduceLT, Int.reduceLE, Int.reduceEq, Nat.reduceLT, Nat.reduceLeDiff, Nat.reduceEqDiff, Int.reduceNeg, eitherK]) | (refine Rn.f ?hc ?_; case hc => simp (config := { implicitDefEqProofs := false, maxSteps := 2000000 }) (disch := omega) only [ps, ↓reduceIte, reduceCtorEq, Int.reduceLT, Int.reduceLE, Int.reduceEq, Nat.reduceLT, Nat.reduceLeDiff, Nat.reduceEqDiff, Int.reduceNeg, eitherK]))
        exact Rn.bind q1 (Rn.pure _)
      · cases a0 <;> cases b0 <;> simp at h zx zy ⊢ <;> omega
theorem Minus_ev (a0 : Bool) (a1 : List Int) {x : Int} (nx : Nm U a0 a1 x) : ∃ s l, Rn (fun k => Fshuntref01_Minus k a0 a1) (s, l) ∧ Nm U s l (-x) ∧ l.length ≤ a1.length := by
  have zx := nx.z
  cases a1 with
  | nil =>
    refine ⟨false, [], Rn.up (f := fun k => Fshuntref01_Minus k a0 []) ?_, nm_pos Cn.nil ?_, by simp⟩
    · show Rn (fun k => bshuntref01_Minus k a0 []) _
      unfold bshuntref01_Minus
      (first | (refine Rn.t ?hc ?_; case hc => simp (config := { implicitDefEqProofs := false, maxSteps := 2000000 }) (disch := omega) only [ps, ↓reduceIte, reduceCtorEq, Int.reduceLT, Int.reduceLE, Int.reduceEq, Nat.reduceLT, Nat.reduceLeDiff, Nat.reduceEqDiff, Int.reduceNeg, eitherK]) | (refine Rn.f ?hc ?_; case hc => simp (config := { implicitDefEqProofs := false, maxSteps := 2000000 }) (disch := omega) only [ps, ↓reduceIte, reduceCtorEq, Int.reduceLT, Int.reduceLE, Int.reduceEq, Nat.reduceLT, Nat.reduceLeDiff, Nat.reduceEqDiff, Int.reduceNeg, eitherK])); exact Rn.pure _
    · cases a0 <;> simp [V] at zx ⊢ <;> omega
  | cons p r =>
    refine ⟨!a0, p :: r, Rn.up (f := fun k => Fshuntref01_Minus k a0 (p :: r)) ?_, ⟨nx.c, fun _ => by simp, ?_⟩, Nat.le_refl _⟩
    · show Rn (fun k => bshuntref01_Minus k a0 (p :: r)) _
      unfold bshuntref01_Minus
      have : (p :: r).length = r.length + 1 := rfl
      (first | (refine Rn.t ?hc ?_; case hc => simp (config := { implicitDefEqProofs := false, maxSteps := 2000000 }) (disch := omega) only [ps, ↓reduceIte, reduceCtorEq, Int.reduceLT, Int.reduceLE, Int.reduceEq, Nat.reduceLT, Nat.reduceLeDiff, Nat.reduceEqDiff, Int.reduceNeg, eitherK, this]) | (refine Rn.f ?hc ?_; case hc => simp (config := { implicitDefEqProofs := false, maxSteps := 2000000 }) (disch := omega) only [ps, ↓reduceIte, reduceCtorEq, Int.reduceLT, Int.reduceLE, Int.reduceEq, Nat.reduceLT, Nat.reduceLeDiff, Nat.reduceEqDiff, Int.reduceNeg, eitherK, this])); exact Rn.pure _
    · cases a0 <;> simp at zx ⊢ <;> omega
theorem Less_ev (a0 b0 : Bool) (a1 b1 : List Int) {x y : Int} (nx : Nm U a0 a1 x) (ny : Nm U b0 b1 y) (hx : a1.length ≤ 1000000000) (hy : b1.length ≤ 1000000000) :
    ∃ s l, Rn (fun k => Fshuntref01_Less k a0 a1 b0 b1) (s, l) ∧ Nm U s l (x - y) ∧ l.length ≤ max a1.length b1.length + 1 := by
  obtain ⟨s, l, h1, h2, h3⟩ := Minus_ev b0 b1 ny
  obtain ⟨s2, l2, q1, q2, q3⟩ := Plus_ev a0 s a1 l nx h2 hx (by omega)
  exact ⟨s2, l2, Rn.up (f := fun k => Fshuntref01_Less k a0 a1 b0 b1) (Rn.bind h1 (Rn.bind q1 (Rn.pure _))), q2.cast (by omega), by omega⟩
theorem Sign_ev (a0 : Bool) (a1 : List Int) {x : Int} (nx : Nm U a0 a1 x) : Rn (fun k => Fshuntref01_Sign k a0 a1) (cmpZ x 0) := by
  have zx := nx.z
  have hs := nx.sg
  have h0 := nx.c.nil_iff (B := U) (by decide)
  have hp := V_nonneg (B := U) (by decide) nx.c.1
  refine Rn.up (f := fun k => Fshuntref01_Sign k a0 a1) ?_
  show Rn (fun k => bshuntref01_Sign k a0 a1) _
  unfold bshuntref01_Sign cmpZ
  by_cases h : a1 = []
  · have := h0.1 h
    rw [this] at zx
    have e : x = 0 := by cases a0 <;> simp at zx <;> omega
    subst e; subst h
    (first | (refine Rn.t ?hc ?_; case hc => simp (config := { implicitDefEqProofs := false, maxSteps := 2000000 }) (disch := omega) only [ps, ↓reduceIte, reduceCtorEq, Int.reduceLT, Int.reduceLE, Int.reduceEq, Nat.reduceLT, Nat.reduceLeDiff, Nat.reduceEqDiff, Int.reduceNeg, eitherK]) | (refine Rn.f ?hc ?_; case hc => simp (config := { implicitDefEqProofs := false, maxSteps := 2000000 }) (disch := omega) only [ps, ↓reduceIte, reduceCtorEq, Int.reduceLT, Int.reduceLE, Int.reduceEq, Nat.reduceLT, Nat.reduceLeDiff, Nat.reduceEqDiff, Int.reduceNeg, eitherK]))
    exact Rn.pure _
  · have := mt h0.2 h
    have hl : a1.length ≠ 0 := fun e => h (List.length_eq_zero_iff.1 e)
    (first | (refine Rn.t ?hc ?_; case hc => simp (config := { implicitDefEqProofs := false, maxSteps := 2000000 }) (disch := omega) only [ps, ↓reduceIte, reduceCtorEq, Int.reduceLT, Int.reduceLE, Int.reduceEq, Nat.reduceLT, Nat.reduceLeDiff, Nat.reduceEqDiff, Int.reduceNeg, eitherK]) | (refine Rn.f ?hc ?_; case hc => simp (config := { implicitDefEqProofs := false, maxSteps := 2000000 }) (disch := omega) only [ps, ↓reduceIte, reduceCtorEq, Int.reduceLT, Int.reduceLE, Int.reduceEq, Nat.reduceLT, Nat.reduceLeDiff, Nat.reduceEqDiff, Int.reduceNeg, eitherK]))
    cases a0
    · simp at zx
      (first | (refine Rn.t ?hc ?_; case hc => simp (config := { implicitDefEqProofs := false, maxSteps := 2000000 }) (disch := omega) only [ps, ↓reduceIte, reduceCtorEq, Int.reduceLT, Int.reduceLE, Int.reduceEq, Nat.reduceLT, Nat.reduceLeDiff, Nat.reduceEqDiff, Int.reduceNeg, eitherK]) | (refine Rn.f ?hc ?_; case hc => simp (config := { implicitDefEqProofs := false, maxSteps := 2000000 }) (disch := omega) only [ps, ↓reduceIte, reduceCtorEq, Int.reduceLT, Int.reduceLE, Int.reduceEq, Nat.reduceLT, Nat.reduceLeDiff, Nat.reduceEqDiff, Int.reduceNeg, eitherK]))
      rw [if_neg (by omega), if_neg (by omega)]
      exact Rn.pure _
    · simp at zx
      (first | (refine Rn.t ?hc ?_; case hc => simp (config := { implicitDefEqProofs := false, maxSteps := 2000000 }) (disch := omega) only [ps, ↓reduceIte, reduceCtorEq, Int.reduceLT, Int.reduceLE, Int.reduceEq, Nat.reduceLT, Nat.reduceLeDiff, Nat.reduceEqDiff, Int.reduceNeg, eitherK]) | (refine Rn.f ?hc ?_; case hc => simp (config := { implicitDefEqProofs := false, maxSteps := 2000000 }) (disch := omega) only [ps, ↓reduceIte, reduceCtorEq, Int.reduceLT, Int.reduceLE, Int.reduceEq, Nat.reduceLT, Nat.reduceLeDiff, Nat.reduceEqDiff, Int.reduceNeg, eitherK]))
      rw [if_pos (by omega)]
      exact Rn.pure _
theorem Held_ev (a0 b0 : Bool) (a1 b1 : List Int) {x y : Int} (nx : Nm U a0 a1 x) (ny : Nm U b0 b1 y) (hx : a1.length ≤ 1000000000) (hy : b1.length ≤ 1000000000) :
    Rn (fun k => Fshuntref01_Held k a0 a1 b0 b1) (cmpZ x y) := by
  obtain ⟨s, l, h1, h2, h3⟩ := Less_ev a0 b0 a1 b1 nx ny hx hy
  have : cmpZ x y = cmpZ (x - y) 0 := by
    unfold cmpZ
    rcases Int.lt_trichotomy x y with h | h | h
    · rw [if_pos h, if_pos (by omega)]
    · rw [if_neg (by omega), if_pos h, if_neg (by omega), if_pos (by omega)]
    · rw [if_neg (by omega), if_neg (by omega), if_neg (by omega), if_neg (by omega)]
  rw [this]
  exact Rn.up (f := fun k => Fshuntref01_Held k a0 a1 b0 b1) (Rn.bind h1 (Rn.bind (Sign_ev s l h2) (Rn.pure _)))
end Go.Proofs.Ytghdpmejgonjmaa.Am
