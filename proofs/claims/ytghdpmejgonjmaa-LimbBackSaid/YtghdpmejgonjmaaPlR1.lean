/- Plain reckoning: the reference's whole numbers, base 65536: magnitudes. -/
import Derived.Test.YtghdpmejgonjmaaPlB4
set_option linter.unusedVariables false
set_option linter.unusedSimpArgs false
set_option maxRecDepth 10000
namespace Go.Proofs.Ytghdpmejgonjmaa.Am
open Go

/-- Digits of the reference: 16 bits. -/
abbrev U : Int := 65536
theorem Upos (i : Nat) : (0 : Int) < U ^ i := Int.pow_pos (by decide)
theorem V_take_getD {B : Int} (l : List Int) (i : Nat) : V B (l.take (i + 1)) = V B (l.take i) + B ^ i * (l[i]?.getD 0) := by
  by_cases h : i < l.length
  · obtain ⟨x, hx⟩ := get_of h
    rw [V_take_succ hx, hx]; rfl
  · rw [List.take_of_length_le (by omega), List.take_of_length_le (by omega), List.getElem?_eq_none (by omega)]; simp
theorem Dg.getD {B : Int} (hB : 0 < B) {l : List Int} (h : Dg B l) (i : Nat) : 0 ≤ l[i]?.getD 0 ∧ l[i]?.getD 0 < B := by
  cases e : l[i]? with
  | none => simp [hB]
  | some x => exact h.get e

theorem rtrim_loop (k : Nat) (ds : List Int) (hl : ds.length ≤ 10000000000) : ∀ (i n d : Nat), i ≤ d → d ≤ ds.length → i < n → Lshuntref01_trim_mfi_0 k n d i ds = some (d, ((tl (ds.take i)).length : Int), ds) := by
  intro i
  induction i with
  | zero =>
    intro n d hi hd hn
    obtain ⟨n, rfl⟩ : ∃ m, n = m + 1 := ⟨n - 1, by omega⟩
    show Lshuntref01_trim_mfi_0s k (Lshuntref01_trim_mfi_0 k n) _ _ _ = _
    unfold Lshuntref01_trim_mfi_0s
    simp (config := { implicitDefEqProofs := false, maxSteps := 2000000 }) (disch := omega) only [ps, ↓reduceIte, reduceCtorEq, Int.reduceLT, Int.reduceLE, Int.reduceEq, Nat.reduceLT, Nat.reduceLeDiff, Nat.reduceEqDiff, Int.reduceNeg, eitherK]
    rfl
  | succ i ih =>
    intro n d hi hd hn
    obtain ⟨n, rfl⟩ : ∃ m, n = m + 1 := ⟨n - 1, by omega⟩
    show Lshuntref01_trim_mfi_0s k (Lshuntref01_trim_mfi_0 k n) _ _ _ = _
    unfold Lshuntref01_trim_mfi_0s
    obtain ⟨x, hx⟩ := get_of (show i < ds.length by omega)
    have h1 : (((i + 1 : Nat) : Int) - 1) = (i : Int) := by omega
    have ht : ds.take (i + 1) = ds.take i ++ [x] := by rw [List.take_add_one, hx]; rfl
    simp (config := { implicitDefEqProofs := false, maxSteps := 2000000 }) (disch := omega) only [ps, ↓reduceIte, reduceCtorEq, Int.reduceLT, Int.reduceLE, Int.reduceEq, Nat.reduceLT, Nat.reduceLeDiff, Nat.reduceEqDiff, Int.reduceNeg, eitherK, h1, hx]
    by_cases h : x = 0
    · simp (config := { implicitDefEqProofs := false, maxSteps := 2000000 }) (disch := omega) only [ps, ↓reduceIte, reduceCtorEq, Int.reduceLT, Int.reduceLE, Int.reduceEq, Nat.reduceLT, Nat.reduceLeDiff, Nat.reduceEqDiff, Int.reduceNeg, eitherK, h]
      rw [ih n d (by omega) hd (by omega), ht, tl_snoc, if_pos h]
    · simp (config := { implicitDefEqProofs := false, maxSteps := 2000000 }) (disch := omega) only [ps, ↓reduceIte, reduceCtorEq, Int.reduceLT, Int.reduceLE, Int.reduceEq, Nat.reduceLT, Nat.reduceLeDiff, Nat.reduceEqDiff, Int.reduceNeg, eitherK, h]
      rw [ht, tl_snoc, if_neg h]
      simp
      omega
theorem rtrim_ev (d : Nat) (ds : List Int) (hd : d ≤ ds.length) (hl : ds.length ≤ 10000000000) : Rn (fun k => Fshuntref01_trim_mfi k d ds) ((tl (ds.take d)).length, ds) := by
  refine Rn.eq (d + 2) fun k hk => ?_
  obtain ⟨k, rfl⟩ : ∃ m, k = m + 1 := ⟨k - 1, by omega⟩
  show bshuntref01_trim_mfi k d ds = _
  unfold bshuntref01_trim_mfi
  have := tl_len (ds.take d)
  rw [List.length_take] at this
  rw [rtrim_loop k ds hl d k d (Nat.le_refl _) hd (by omega)]
  simp (config := { implicitDefEqProofs := false, maxSteps := 2000000 }) (disch := omega) only [ps, ↓reduceIte, reduceCtorEq, Int.reduceLT, Int.reduceLE, Int.reduceEq, Nat.reduceLT, Nat.reduceLeDiff, Nat.reduceEqDiff, Int.reduceNeg, eitherK]
theorem tl_take_len (ds : List Int) (d : Nat) : ds.take (tl (ds.take d)).length = tl (ds.take d) := by
  have h1 := tl_take (ds.take d)
  rw [List.take_take] at h1
  have h2 := tl_len (ds.take d)
  rw [List.length_take] at h2
  rwa [Nat.min_eq_left (by omega)] at h1

theorem plus_loop (k : Nat) (a b : List Int) (hla : a.length ≤ 1000000000) (hlb : b.length ≤ 1000000000) (ha : Dg U a) (hb : Dg U b) :
    ∀ (d i n : Nat) (carry : Int) (ds : List Int), i + d = max a.length b.length + 1 → d < n → 0 ≤ carry ∧ carry ≤ 1 → (d = 0 → carry = 0) → ds.length = i → Dg U ds →
    V U ds + carry * U ^ i = V U (a.take i) + V U (b.take i) →
    ∃ ds', Lshuntref01_plus_0 k n a b i carry i ds = some (ds'.length, ds') ∧ Dg U ds' ∧ ds'.length ≤ max a.length b.length + 1 ∧ V U ds' = V U a + V U b := by
  intro d
  induction d with
  | zero =>
    intro i n carry ds hi hn hc h0 hl hd e
    obtain ⟨n, rfl⟩ : ∃ m, n = m + 1 := ⟨n - 1, by omega⟩
    have hc0 := h0 rfl
    subst hc0
    refine ⟨ds, ?_, hd, by omega, ?_⟩
    · show Lshuntref01_plus_0s k (Lshuntref01_plus_0 k n) _ _ _ _ _ _ = _
      unfold Lshuntref01_plus_0s
      simp (config := { implicitDefEqProofs := false, maxSteps := 2000000 }) (disch := omega) only [ps, ↓reduceIte, reduceCtorEq, Int.reduceLT, Int.reduceLE, Int.reduceEq, Nat.reduceLT, Nat.reduceLeDiff, Nat.reduceEqDiff, Int.reduceNeg, eitherK]
      rw [hl]
    · rw [List.take_of_length_le (by omega), List.take_of_length_le (by omega)] at e
      simpa using e
  | succ d ih =>
    intro i n carry ds hi hn hc h0 hl hd e
    obtain ⟨n, rfl⟩ : ∃ m, n = m + 1 := ⟨n - 1, by omega⟩
    have ta := V_take_getD (B := U) a i
    have tb := V_take_getD (B := U) b i
    have ba := ha.getD (by decide) i
    have bb := hb.getD (by decide) i
    have h1 : ((i : Int) + 1) = ((i + 1 : Nat) : Int) := rfl
    have ht : ds.take i = ds := List.take_of_length_le (by omega)
    generalize hx : a[i]?.getD 0 = x at ta ba
    generalize hy : b[i]?.getD 0 = y at tb bb
    have key : ∃ ds', Lshuntref01_plus_0 k n a b (i + 1) ((carry + x + y) / U) ((i + 1 : Nat) : Int) (ds ++ [(carry + x + y) % U]) = some (ds'.length, ds') ∧ Dg U ds' ∧ ds'.length ≤ max a.length b.length + 1 ∧ V U ds' = V U a + V U b := by
      have hdm := Int.emod_add_mul_ediv (carry + x + y) U
      unfold U at ba bb
      refine ih (i + 1) n _ _ (by omega) (by omega) (by unfold U; omega) (fun hd0 => ?_) (by simp [hl]) (hd.snoc (by unfold U; omega)) ?_
      · -- behind both, the carry alone is left
        have x0 : x = 0 := by rw [← hx, List.getElem?_eq_none (by omega)]; rfl
        have y0 : y = 0 := by rw [← hy, List.getElem?_eq_none (by omega)]; rfl
        subst x0; subst y0
        unfold U; omega
      · rw [V_snoc, hl, ta, tb, Int.pow_succ]
        grind
    unfold U at ba bb
    by_cases hst : i < a.length ∨ i < b.length ∨ 0 < carry
    · obtain ⟨ds', q1, q2⟩ := key
      refine ⟨ds', ?_, q2⟩
      rw [← q1]
      show Lshuntref01_plus_0s k (Lshuntref01_plus_0 k n) _ _ _ _ _ _ = _
      unfold Lshuntref01_plus_0s
      have hlen : (List.take 1 [(carry + x + y) % U]).length = 1 := rfl
      by_cases h2 : i < a.length
      · have hx' : a[i]? = some x := by obtain ⟨z, hz⟩ := get_of h2; rw [hz] at hx ⊢; simpa using hx
        by_cases h3 : i < b.length
        · have hy' : b[i]? = some y := by obtain ⟨z, hz⟩ := get_of h3; rw [hz] at hy ⊢; simpa using hy
          simp (config := { implicitDefEqProofs := false, maxSteps := 2000000 }) (disch := omega) only [ps, ↓reduceIte, reduceCtorEq, Int.reduceLT, Int.reduceLE, Int.reduceEq, Nat.reduceLT, Nat.reduceLeDiff, Nat.reduceEqDiff, Int.reduceNeg, eitherK, hx', hy', h1, hl, ht, List.take_succ_cons, List.length_cons, tdiv_pos, tmod_pos]
        · have hy' : y = 0 := by rw [← hy, List.getElem?_eq_none (by omega)]; rfl
          subst hy'
          simp (config := { implicitDefEqProofs := false, maxSteps := 2000000 }) (disch := omega) only [ps, ↓reduceIte, reduceCtorEq, Int.reduceLT, Int.reduceLE, Int.reduceEq, Nat.reduceLT, Nat.reduceLeDiff, Nat.reduceEqDiff, Int.reduceNeg, eitherK, hx', h1, hl, ht, List.take_succ_cons, List.length_cons, tdiv_pos, tmod_pos, Int.add_zero]
      · have hx' : x = 0 := by rw [← hx, List.getElem?_eq_none (by omega)]; rfl
        subst hx'
        by_cases h3 : i < b.length
        · have hy' : b[i]? = some y := by obtain ⟨z, hz⟩ := get_of h3; rw [hz] at hy ⊢; simpa using hy
          simp (config := { implicitDefEqProofs := false, maxSteps := 2000000 }) (disch := omega) only [ps, ↓reduceIte, reduceCtorEq, Int.reduceLT, Int.reduceLE, Int.reduceEq, Nat.reduceLT, Nat.reduceLeDiff, Nat.reduceEqDiff, Int.reduceNeg, eitherK, hy', h1, hl, ht, List.take_succ_cons, List.length_cons, tdiv_pos, tmod_pos, Int.add_zero]
        · have hy' : y = 0 := by rw [← hy, List.getElem?_eq_none (by omega)]; rfl
          subst hy'
          simp (config := { implicitDefEqProofs := false, maxSteps := 2000000 }) (disch := omega) only [ps, ↓reduceIte, reduceCtorEq, Int.reduceLT, Int.reduceLE, Int.reduceEq, Nat.reduceLT, Nat.reduceLeDiff, Nat.reduceEqDiff, Int.reduceNeg, eitherK, h1, hl, ht, List.take_succ_cons, List.length_cons, tdiv_pos, tmod_pos, Int.add_zero]
    · have hc0 : carry = 0 := by omega
      subst hc0
      refine ⟨ds, ?_, hd, by omega, ?_⟩
      · show Lshuntref01_plus_0s k (Lshuntref01_plus_0 k n) _ _ _ _ _ _ = _
        unfold Lshuntref01_plus_0s
        simp (config := { implicitDefEqProofs := false, maxSteps := 2000000 }) (disch := omega) only [ps, ↓reduceIte, reduceCtorEq, Int.reduceLT, Int.reduceLE, Int.reduceEq, Nat.reduceLT, Nat.reduceLeDiff, Nat.reduceEqDiff, Int.reduceNeg, eitherK]
        rw [hl]
      · rw [List.take_of_length_le (by omega), List.take_of_length_le (by omega)] at e
        simpa using e
/-- Digits of one worth and one form: told once for all. -/
theorem Cn.uniq {B : Int} (hB : 0 < B) {f : Nat → Option (List Int)} {v : Int} {L : Nat} (K : Nat) (h : ∀ k, K ≤ k → ∃ l, f k = some l ∧ Cn B l ∧ V B l = v ∧ l.length ≤ L) : ∃ l, Rn f l ∧ Cn B l ∧ V B l = v ∧ l.length ≤ L := by
  obtain ⟨l, h1, h2, h3, h4⟩ := h K (Nat.le_refl _)
  refine ⟨l, ⟨K, fun k hk => ?_⟩, h2, h3, h4⟩
  obtain ⟨m, q1, q2, q3, q4⟩ := h k hk
  rw [q1, Cn.ext hB q2 h2 (by rw [q3, h3])]
theorem plus_ev (a b : List Int) (hla : a.length ≤ 1000000000) (hlb : b.length ≤ 1000000000) (ha : Dg U a) (hb : Dg U b) :
    ∃ l, Rn (fun k => Fshuntref01_plus k a b) l ∧ Cn U l ∧ V U l = V U a + V U b ∧ l.length ≤ max a.length b.length + 1 := by
  obtain ⟨K, hK⟩ : ∃ K, ∀ (ds : List Int), ds.length ≤ max a.length b.length + 1 → ∀ k, K ≤ k → Fshuntref01_trim_mfi k ds.length ds = some ((tl ds).length, ds) := by
    refine ⟨max a.length b.length + 4, fun ds hds k hk => ?_⟩
    obtain ⟨k, rfl⟩ : ∃ m, k = m + 1 := ⟨k - 1, by omega⟩
    show bshuntref01_trim_mfi k ds.length ds = _
    unfold bshuntref01_trim_mfi
    have := tl_len ds
    rw [rtrim_loop k ds (by omega) ds.length k ds.length (Nat.le_refl _) (Nat.le_refl _) (by omega), List.take_length]
    simp (config := { implicitDefEqProofs := false, maxSteps := 2000000 }) (disch := omega) only [ps, ↓reduceIte, reduceCtorEq, Int.reduceLT, Int.reduceLE, Int.reduceEq, Nat.reduceLT, Nat.reduceLeDiff, Nat.reduceEqDiff, Int.reduceNeg, eitherK]
  have main := Cn.uniq (B := U) (v := V U a + V U b) (L := max a.length b.length + 1) (f := fun k => Fshuntref01_plus (k + 1) a b) (by decide) (max K (max a.length b.length + 3)) fun k hk => by
    obtain ⟨ds, q1, q2, q3, q4⟩ := plus_loop k a b hla hlb ha hb (max a.length b.length + 1) 0 k 0 [] (by omega) (by omega) (by decide) (fun _ => rfl) rfl Dg.nil (by simp [V])
    have := tl_len ds
    refine ⟨tl ds, ?_, Cn.of q2, by rw [V_tl, q4], by omega⟩
    show bshuntref01_plus k a b = _
    unfold bshuntref01_plus
    have q1' : Lshuntref01_plus_0 k k a b 0 0 0 [] = some (ds.length, ds) := q1
    rw [q1', Option.bind_some]
    simp only []
    rw [hK ds q3 k (by omega), Option.bind_some]
    simp (config := { implicitDefEqProofs := false, maxSteps := 2000000 }) (disch := omega) only [ps, ↓reduceIte, reduceCtorEq, Int.reduceLT, Int.reduceLE, Int.reduceEq, Nat.reduceLT, Nat.reduceLeDiff, Nat.reduceEqDiff, Int.reduceNeg, eitherK]
    rw [tl_take]
  obtain ⟨l, h1, h2⟩ := main
  exact ⟨l, Rn.up (f := fun k => Fshuntref01_plus k a b) h1, h2⟩
end Go.Proofs.Ytghdpmejgonjmaa.Am
