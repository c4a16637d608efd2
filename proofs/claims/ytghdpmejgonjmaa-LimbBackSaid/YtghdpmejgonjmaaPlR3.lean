/- Plain reckoning: the reference's numbers taken from limbs and given back; what is told. -/
import Derived.Test.YtghdpmejgonjmaaPlR2
set_option linter.unusedVariables false
set_option linter.unusedSimpArgs false
set_option maxRecDepth 10000
namespace Go.Proofs.Ytghdpmejgonjmaa.Am
open Go

theorem U2 (i : Nat) : U ^ (2 * i) = W ^ i := by rw [Int.pow_mul]; rfl
theorem take_loop (k : Nat) (a0 : Bool) (a1 : List Int) (hla : a1.length ≤ 1000000000) (ha : Dg W a1) :
    ∀ (d i n : Nat) (ds : List Int), i + d = a1.length → d < n → ds.length = 2 * i → Dg U ds → V U ds = V W (a1.take i) →
    ∃ ds', Lshuntref01_Take_0 k n (2 * i) i a0 a1 false 0 ds [] = some (2 * a1.length, a0, a1, false, 0, ds', []) ∧ Dg U ds' ∧ ds'.length = 2 * a1.length ∧ V U ds' = V W a1 := by
  intro d
  induction d with
  | zero =>
    intro i n ds hi hn hl hd e
    obtain ⟨n, rfl⟩ : ∃ m, n = m + 1 := ⟨n - 1, by omega⟩
    have hia : i = a1.length := by omega
    subst hia
    refine ⟨ds, ?_, hd, hl, by rw [e, List.take_length]⟩
    show Lshuntref01_Take_0s k (Lshuntref01_Take_0 k n) _ _ _ _ _ _ _ _ = _
    unfold Lshuntref01_Take_0s
    simp (config := { implicitDefEqProofs := false, maxSteps := 2000000 }) (disch := omega) only [ps, ↓reduceIte, reduceCtorEq, Int.reduceLT, Int.reduceLE, Int.reduceEq, Nat.reduceLT, Nat.reduceLeDiff, Nat.reduceEqDiff, Int.reduceNeg, eitherK]
  | succ d ih =>
    intro i n ds hi hn hl hd e
    obtain ⟨n, rfl⟩ : ∃ m, n = m + 1 := ⟨n - 1, by omega⟩
    obtain ⟨x, hx⟩ := get_of (show i < a1.length by omega)
    have hxb := ha.get hx
    have h1 : ((i : Int) + 1) = ((i + 1 : Nat) : Int) := rfl
    have ht : ds.take (2 * i) = ds := List.take_of_length_le (by omega)
    have hdm := Int.emod_add_mul_ediv x 65536
    unfold W at hxb
    have hu : 0 ≤ x / 65536 ∧ x / 65536 < 65536 := by omega
    obtain ⟨ds', q1, q2⟩ := ih (i + 1) n (ds ++ [x % 65536, x / 65536]) (by omega) (by omega) (by simp [hl]; omega) (hd.append (Dg.cons (by unfold U; omega) (Dg.cons hu Dg.nil))) (by
      rw [V_append, V_take_succ hx, hl, U2, e]
      simp only [V]
      unfold U
      grind)
    refine ⟨ds', ?_, q2⟩
    rw [← q1]
    show Lshuntref01_Take_0s k (Lshuntref01_Take_0 k n) _ _ _ _ _ _ _ _ = _
    unfold Lshuntref01_Take_0s
    have h2 : 2 * i + 2 = 2 * (i + 1) := by omega
    simp (config := { implicitDefEqProofs := false, maxSteps := 2000000 }) (disch := omega) only [ps, ↓reduceIte, reduceCtorEq, Int.reduceLT, Int.reduceLE, Int.reduceEq, Nat.reduceLT, Nat.reduceLeDiff, Nat.reduceEqDiff, Int.reduceNeg, eitherK, hx, h1, hl, ht, List.take_succ_cons, List.length_cons, tdiv_pos, tmod_pos, h2]
theorem rTake_ev (a0 : Bool) (a1 : List Int) (hla : a1.length ≤ 1000000000) {z : Int} (hn : Nm W a0 a1 z) : ∃ l, Rn (fun k => Fshuntref01_Take k a0 a1) (a0, l) ∧ Nm U a0 l z ∧ l.length ≤ 2 * a1.length := by
  have main := Cn.uniq (B := U) (v := V W a1) (L := 2 * a1.length) (f := fun k => (Fshuntref01_Take (k + 1) a0 a1).map (·.2)) (by decide) (2 * a1.length + 3) fun k hk => by
    obtain ⟨ds, q1, q2, q3, q4⟩ := take_loop k a0 a1 hla hn.c.1 a1.length 0 k [] (by omega) (by omega) rfl Dg.nil (by simp [V])
    have := tl_len ds
    refine ⟨tl ds, ?_, Cn.of q2, by rw [V_tl, q4], by omega⟩
    have q1' : Lshuntref01_Take_0 k k 0 0 a0 a1 false 0 [] [] = _ := q1
    have ht := rtrim_eq ds (by omega) k (by omega)
    rw [q3] at ht
    show (bshuntref01_Take k a0 a1).map (·.2) = _
    unfold bshuntref01_Take
    rw [q1', Option.bind_some]
    simp only []
    rw [ht, Option.bind_some]
    cases a0
    · simp (config := { implicitDefEqProofs := false, maxSteps := 2000000 }) (disch := omega) only [ps, ↓reduceIte, reduceCtorEq, Int.reduceLT, Int.reduceLE, Int.reduceEq, Nat.reduceLT, Nat.reduceLeDiff, Nat.reduceEqDiff, Int.reduceNeg, eitherK]
      rw [tl_take]; rfl
    · simp (config := { implicitDefEqProofs := false, maxSteps := 2000000 }) (disch := omega) only [ps, ↓reduceIte, reduceCtorEq, Int.reduceLT, Int.reduceLE, Int.reduceEq, Nat.reduceLT, Nat.reduceLeDiff, Nat.reduceEqDiff, Int.reduceNeg, eitherK]
      rw [tl_take]; rfl
  obtain ⟨l, h1, h2, h3, h4⟩ := main
  have hzero : l = [] ↔ a1 = [] := by rw [h2.nil_iff (by decide), h3, hn.c.nil_iff (by decide)]
  have hnm : Nm U a0 l z := ⟨h2, fun hs h0 => hn.sg hs (hzero.1 h0), by rw [h3]; exact hn.z⟩
  refine ⟨l, ?_, hnm, h4⟩
  obtain ⟨K, h1⟩ := h1
  refine Rn.up (f := fun k => Fshuntref01_Take k a0 a1) (Rn.eq (max K (2 * a1.length + 3)) fun k hk => ?_)
  have e := h1 k (by omega)
  obtain ⟨ds, q1, q2, q3, q4⟩ := take_loop k a0 a1 hla hn.c.1 a1.length 0 k [] (by omega) (by omega) rfl Dg.nil (by simp [V])
  have q1' : Lshuntref01_Take_0 k k 0 0 a0 a1 false 0 [] [] = _ := q1
  have ht := rtrim_eq ds (by omega) k (by omega)
  rw [q3] at ht
  have hl : tl ds = l := Cn.ext (B := U) (by decide) (Cn.of q2) h2 (by rw [V_tl, q4, h3])
  have := tl_len ds
  show bshuntref01_Take k a0 a1 = _
  unfold bshuntref01_Take
  rw [q1', Option.bind_some]
  simp only []
  rw [ht, Option.bind_some]
  cases a0
  · simp (config := { implicitDefEqProofs := false, maxSteps := 2000000 }) (disch := omega) only [ps, ↓reduceIte, reduceCtorEq, Int.reduceLT, Int.reduceLE, Int.reduceEq, Nat.reduceLT, Nat.reduceLeDiff, Nat.reduceEqDiff, Int.reduceNeg, eitherK]
    rw [tl_take, hl]
  · have hne : l ≠ [] := fun h0 => hn.sg rfl (hzero.1 h0)
    have hpos : 0 < l.length := by cases l with
      | nil => exact absurd rfl hne
      | cons _ _ => simp
    simp (config := { implicitDefEqProofs := false, maxSteps := 2000000 }) (disch := omega) only [ps, ↓reduceIte, reduceCtorEq, Int.reduceLT, Int.reduceLE, Int.reduceEq, Nat.reduceLT, Nat.reduceLeDiff, Nat.reduceEqDiff, Int.reduceNeg, eitherK, hl]
    have t := tl_take ds
    rw [hl] at t
    rw [t]; rfl

/-- Great enough for its length: in the one form. -/
theorem Cn.of_ge {B : Int} (hB : 1 < B) {l : List Int} (h : Dg B l) (hg : l ≠ [] → B ^ (l.length - 1) ≤ V B l) : Cn B l := by
  refine ⟨h, (Cn.last h).2 ?_⟩
  rcases List.eq_nil_or_concat l with rfl | ⟨m, x, rfl⟩
  · exact .inl rfl
  · rw [List.concat_eq_append] at *
    refine .inr ⟨m, x, rfl, fun h0 => ?_⟩
    subst h0
    have := hg (by simp)
    rw [V_snoc, Int.mul_zero, Int.add_zero] at this
    have h2 := V_lt (B := B) (by omega) (fun y hy => h y (by simp [hy]) : Dg B m)
    simp at this
    omega
theorem give_loop (k : Nat) (a0 : Bool) (a1 : List Int) (hla : a1.length ≤ 1000000000) (ha : Dg U a1) :
    ∀ (d j n : Nat) (m : List Int), a1.length ≤ 2 * (j + d) → 2 * j ≤ a1.length + 1 → d < n → m.length = j → Dg W m → V W m = V U (a1.take (2 * j)) →
    ∃ m', Lshuntref01_Give_0 k n (2 * j : Nat) a0 a1 false 0 a0 j [] m = some (a0, a1, false, 0, a0, m'.length, [], m') ∧ Dg W m' ∧ m'.length = (a1.length + 1) / 2 ∧ V W m' = V U a1 := by
  intro d
  induction d with
  | zero =>
    intro j n m hj hj2 hn hl hd e
    obtain ⟨n, rfl⟩ : ∃ m, n = m + 1 := ⟨n - 1, by omega⟩
    refine ⟨m, ?_, hd, by omega, by rw [e, List.take_of_length_le (by omega)]⟩
    show Lshuntref01_Give_0s k (Lshuntref01_Give_0 k n) _ _ _ _ _ _ _ _ _ = _
    unfold Lshuntref01_Give_0s
    simp (config := { implicitDefEqProofs := false, maxSteps := 2000000 }) (disch := omega) only [ps, ↓reduceIte, reduceCtorEq, Int.reduceLT, Int.reduceLE, Int.reduceEq, Nat.reduceLT, Nat.reduceLeDiff, Nat.reduceEqDiff, Int.reduceNeg, eitherK]
    rw [hl]
  | succ d ih =>
    intro j n m hj hj2 hn hl hd e
    obtain ⟨n, rfl⟩ : ∃ m, n = m + 1 := ⟨n - 1, by omega⟩
    by_cases h0 : 2 * j < a1.length
    · obtain ⟨x, hx⟩ := get_of h0
      have hxb := ha.get hx
      unfold U at hxb
      have ht : m.take j = m := List.take_of_length_le (by omega)
      have h3 : (((2 * j : Nat) : Int) + 2) = ((2 * (j + 1) : Nat) : Int) := by omega
      have t1 := V_take_succ (B := U) hx
      have t2 := V_take_getD (B := U) a1 (2 * j + 1)
      have hyb := ha.getD (B := U) (by decide) (2 * j + 1)
      generalize hy : a1[2 * j + 1]?.getD 0 = y at t2 hyb
      unfold U at hyb
      obtain ⟨m', q1, q2⟩ := ih (j + 1) n (m ++ [x + y * 65536]) (by omega) (by omega) (by omega) (by simp [hl]) (hd.snoc (by unfold W; omega)) (by
        rw [V_snoc, hl, show 2 * (j + 1) = 2 * j + 1 + 1 by omega, t2, t1, e, ← U2, Int.pow_succ]
        unfold U
        grind)
      refine ⟨m', ?_, q2⟩
      rw [← q1]
      show Lshuntref01_Give_0s k (Lshuntref01_Give_0 k n) _ _ _ _ _ _ _ _ _ = _
      unfold Lshuntref01_Give_0s
      by_cases h4 : 2 * j + 1 < a1.length
      · have hy' : a1[2 * j + 1]? = some y := by obtain ⟨z, hz⟩ := get_of h4; rw [hz] at hy ⊢; simpa using hy
        have h5 : (((2 * j : Nat) : Int) + 1) = ((2 * j + 1 : Nat) : Int) := rfl
        simp (config := { implicitDefEqProofs := false, maxSteps := 2000000 }) (disch := omega) only [ps, ↓reduceIte, reduceCtorEq, Int.reduceLT, Int.reduceLE, Int.reduceEq, Nat.reduceLT, Nat.reduceLeDiff, Nat.reduceEqDiff, Int.reduceNeg, eitherK, hx, hy', h5, h3, hl, ht, List.take_succ_cons, List.length_cons]
      · have hy' : y = 0 := by rw [← hy, List.getElem?_eq_none (by omega)]; rfl
        subst hy'
        simp (config := { implicitDefEqProofs := false, maxSteps := 2000000 }) (disch := omega) only [ps, ↓reduceIte, reduceCtorEq, Int.reduceLT, Int.reduceLE, Int.reduceEq, Nat.reduceLT, Nat.reduceLeDiff, Nat.reduceEqDiff, Int.reduceNeg, eitherK, hx, h3, hl, ht, List.take_succ_cons, List.length_cons, Int.zero_mul, Int.add_zero]
    · refine ⟨m, ?_, hd, by omega, by rw [e, List.take_of_length_le (by omega)]⟩
      show Lshuntref01_Give_0s k (Lshuntref01_Give_0 k n) _ _ _ _ _ _ _ _ _ = _
      unfold Lshuntref01_Give_0s
      simp (config := { implicitDefEqProofs := false, maxSteps := 2000000 }) (disch := omega) only [ps, ↓reduceIte, reduceCtorEq, Int.reduceLT, Int.reduceLE, Int.reduceEq, Nat.reduceLT, Nat.reduceLeDiff, Nat.reduceEqDiff, Int.reduceNeg, eitherK]
      rw [hl]
theorem rGive_ev (a0 : Bool) (a1 : List Int) (hla : a1.length ≤ 1000000000) {z : Int} (hn : Nm U a0 a1 z) : ∃ m, Rn (fun k => Fshuntref01_Give k a0 a1) (a0, m) ∧ Nm W a0 m z ∧ m.length = (a1.length + 1) / 2 := by
  have cn : ∀ m, Dg W m → m.length = (a1.length + 1) / 2 → V W m = V U a1 → Cn W m := by
    intro m h1 h2 h3
    refine Cn.of_ge (by decide) h1 fun h0 => ?_
    have hl0 : m.length ≠ 0 := fun e => h0 (List.length_eq_zero_iff.1 e)
    have g := hn.c.ge (B := U) (by decide) (fun e => hl0 (by rw [h2, e]; rfl))
    have p := pow_mono (B := U) (by decide) (show 2 * (m.length - 1) ≤ a1.length - 1 by omega)
    rw [U2] at p
    omega
  obtain ⟨m0, q1, q2, q3, q4⟩ := give_loop (a1.length + 1) a0 a1 hla hn.c.1 a1.length 0 (a1.length + 1) [] (by omega) (by omega) (by omega) rfl Dg.nil (by simp [V])
  have c0 := cn m0 q2 q3 q4
  refine ⟨m0, Rn.up (f := fun k => Fshuntref01_Give k a0 a1) (Rn.eq (a1.length + 1) fun k hk => ?_), ⟨c0, fun hs h0 => hn.sg hs ?_, by rw [q4]; exact hn.z⟩, q3⟩
  · obtain ⟨m, r1, r2, r3, r4⟩ := give_loop k a0 a1 hla hn.c.1 a1.length 0 k [] (by omega) (by omega) (by omega) rfl Dg.nil (by simp [V])
    have hm : m = m0 := Cn.ext (B := W) (by decide) (cn m r2 r3 r4) c0 (by rw [r4, q4])
    subst hm
    have r1' : Lshuntref01_Give_0 k k 0 a0 a1 false 0 a0 0 [] [] = _ := r1
    show bshuntref01_Give k a0 a1 = _
    unfold bshuntref01_Give
    rw [r1', Option.bind_some]
    simp (config := { implicitDefEqProofs := false, maxSteps := 2000000 }) (disch := omega) only [ps, ↓reduceIte, reduceCtorEq, Int.reduceLT, Int.reduceLE, Int.reduceEq, Nat.reduceLT, Nat.reduceLeDiff, Nat.reduceEqDiff, Int.reduceNeg, eitherK, List.take_length]
  · rw [h0] at q4
    exact (hn.c.nil_iff (B := U) (by decide)).2 (by rw [← q4]; rfl)
theorem told_ev (a0 : Bool) (a1 : List Int) (hla : a1.length ≤ 1000000000) {z : Int} (hn : Nm U a0 a1 z) : ∃ m, Rn (fun k => Fshuntref01_told k a0 a1) (ans a0 m) ∧ Nm W a0 m z ∧ m.length = (a1.length + 1) / 2 := by
  obtain ⟨m, h1, h2, h3⟩ := rGive_ev a0 a1 hla hn
  refine ⟨m, ?_, h2, h3⟩
  refine Rn.up (f := fun k => Fshuntref01_told k a0 a1) ?_
  show Rn (fun k => bshuntref01_told k a0 a1) _
  unfold bshuntref01_told
  have hL : Rn (fun k => Fshuntref01_Length k a0 a1) ((m.length : Int)) := by
    refine Rn.up (f := fun k => Fshuntref01_Length k a0 a1) ?_
    show Rn (fun k => bshuntref01_Length k a0 a1) _
    unfold bshuntref01_Length
    have : IntKind.i64.wrap (Int.tdiv (IntKind.i64.wrap ((a1.length : Int) + 1)) 2) = (m.length : Int) := by
      have e1 : IntKind.i64.wrap ((a1.length : Int) + 1) = (a1.length : Int) + 1 := wrap_i64 (by omega)
      rw [e1, tdiv_pos (by omega), wrap_i64 (by omega)]
      omega
    rw [this]; exact Rn.pure _
  refine Rn.bind hL ?_
  unfold ans
  by_cases h : m.length ≤ 72
  · (first | (refine Rn.t ?hc ?_; case hc => simp (config := { implicitDefEqProofs := false, maxSteps := 2000000 }) (disch := omega) only [ps, ↓reduceIte, reduceCtorEq, Int.reduceLT, Int.reduceLE, Int.reduceEq, Nat.reduceLT, Nat.reduceLeDiff, Nat.reduceEqDiff, Int.reduceNeg, eitherK]) | (refine Rn.f ?hc ?_; case hc => simp (config := { implicitDefEqProofs := false, maxSteps := 2000000 }) (disch := omega) only [ps, ↓reduceIte, reduceCtorEq, Int.reduceLT, Int.reduceLE, Int.reduceEq, Nat.reduceLT, Nat.reduceLeDiff, Nat.reduceEqDiff, Int.reduceNeg, eitherK]))
    rw [if_pos h]
    exact Rn.bind h1 (Rn.pure _)
  · (first | (refine Rn.t ?hc ?_; case hc => simp (config := { implicitDefEqProofs := false, maxSteps := 2000000 }) (disch := omega) only [ps, ↓reduceIte, reduceCtorEq, Int.reduceLT, Int.reduceLE, Int.reduceEq, Nat.reduceLT, Nat.reduceLeDiff, Nat.reduceEqDiff, Int.reduceNeg, eitherK]) | (refine Rn.f ?hc ?_; case hc => simp (config := { implicitDefEqProofs := false, maxSteps := 2000000 }) (disch := omega) only [ps, ↓reduceIte, reduceCtorEq, Int.reduceLT, Int.reduceLE, Int.reduceEq, Nat.reduceLT, Nat.reduceLeDiff, Nat.reduceEqDiff, Int.reduceNeg, eitherK]))
    rw [if_neg h]
    exact Rn.pure _

theorem times_inner (k : Nat) (a0 b0 : Bool) (a1 b1 : List Int) (hb : Dg U b1) (i : Nat) (a : Int) (hai : a1[i]? = some a) (ha : 0 ≤ a ∧ a < U) (n12 : Nat) (hn12 : n12 ≤ 2000000000) (hi : i + b1.length < n12) :
    ∀ (d j n : Nat) (carry : Int) (ds : List Int), j + d = b1.length → d < n → 0 ≤ carry ∧ carry < U → ds.length = n12 → Dg U ds →
    ∃ carry' ds', Lshuntref01_Times_2 k n n12 i carry j a0 a1 b0 b1 false 0 ds [] = some (n12, (i : Int), carry', a0, a1, b0, b1, false, 0, ds', []) ∧ (0 ≤ carry' ∧ carry' < U) ∧ ds'.length = n12 ∧ Dg U ds' ∧
      V U ds' + carry' * U ^ (i + b1.length) = V U ds + carry * U ^ (i + j) + a * U ^ (i + j) * V U (b1.drop j) ∧ ∀ p, i + b1.length ≤ p → ds'[p]? = ds[p]? := by
  intro d
  induction d with
  | zero =>
    intro j n carry ds hj hn hc hl hd
    obtain ⟨n, rfl⟩ : ∃ m, n = m + 1 := ⟨n - 1, by omega⟩
    have : j = b1.length := by omega
    subst this
    refine ⟨carry, ds, ?_, hc, hl, hd, ?_, fun p _ => rfl⟩
    · show Lshuntref01_Times_2s k (Lshuntref01_Times_2 k n) _ _ _ _ _ _ _ _ _ _ _ _ = _
      unfold Lshuntref01_Times_2s
      simp (config := { implicitDefEqProofs := false, maxSteps := 2000000 }) (disch := omega) only [ps, ↓reduceIte, reduceCtorEq, Int.reduceLT, Int.reduceLE, Int.reduceEq, Nat.reduceLT, Nat.reduceLeDiff, Nat.reduceEqDiff, Int.reduceNeg, eitherK]
    · rw [List.drop_length]; simp [V]
  | succ d ih =>
    intro j n carry ds hj hn hc hl hd
    obtain ⟨n, rfl⟩ : ∃ m, n = m + 1 := ⟨n - 1, by omega⟩
    obtain ⟨b, hbj⟩ := get_of (show j < b1.length by omega)
    obtain ⟨o, ho⟩ := get_of (show i + j < ds.length by omega)
    have hbb := hb.get hbj
    have hob := hd.get ho
    have h1 : ((j : Int) + 1) = ((j + 1 : Nat) : Int) := rfl
    have h2 : ((i : Int) + (j : Int)) = ((i + j : Nat) : Int) := rfl
    unfold U at ha hbb hob hc
    have hm1 := Int.mul_nonneg ha.1 hbb.1
    have hm2 : a * b ≤ 65535 * b := Int.mul_le_mul_of_nonneg_right (by omega) hbb.1
    have hdm := Int.emod_add_mul_ediv (o + a * b + carry) U
    obtain ⟨c', o', q1, q2, q3, q4, q5, q6⟩ := ih (j + 1) n ((o + a * b + carry) / U) (ds.set (i + j) ((o + a * b + carry) % U)) (by omega) (by omega) (by unfold U; omega) (by simpa using hl) (hd.set _ (by unfold U; omega))
    refine ⟨c', o', ?_, q2, q3, q4, ?_, fun p hp => ?_⟩
    · rw [← q1]
      show Lshuntref01_Times_2s k (Lshuntref01_Times_2 k n) _ _ _ _ _ _ _ _ _ _ _ _ = _
      unfold Lshuntref01_Times_2s
      simp (config := { implicitDefEqProofs := false, maxSteps := 2000000 }) (disch := omega) only [ps, ↓reduceIte, reduceCtorEq, Int.reduceLT, Int.reduceLE, Int.reduceEq, Nat.reduceLT, Nat.reduceLeDiff, Nat.reduceEqDiff, Int.reduceNeg, eitherK, hai, hbj, h1, h2, ho, tdiv_pos, tmod_pos]
    · rw [q5, V_set _ ho, V_drop hbj, ← Nat.add_assoc, Int.pow_succ]
      grind
    · rw [q6 p hp, List.getElem?_set_ne (by omega)]
theorem times_outer (k : Nat) (a0 b0 : Bool) (a1 b1 : List Int) (ha : Dg U a1) (hb : Dg U b1) (hla : a1.length ≤ 1000000000) (hlb : b1.length ≤ 1000000000) (hk : b1.length < k) :
    ∀ (d i n : Nat) (ds : List Int), i + d = a1.length → d < n → ds.length = a1.length + b1.length → Dg U ds → V U ds = V U (a1.take i) * V U b1 → (∀ p, i + b1.length ≤ p → p < ds.length → ds[p]? = some 0) →
    ∃ ds', Lshuntref01_Times_0 k n (a1.length + b1.length) i a0 a1 b0 b1 false 0 ds [] = some (a1.length + b1.length, a0, a1, b0, b1, false, 0, ds', []) ∧ ds'.length = a1.length + b1.length ∧ Dg U ds' ∧ V U ds' = V U a1 * V U b1 := by
  intro d
  induction d with
  | zero =>
    intro i n ds hi hn hl hd e h0
    obtain ⟨n, rfl⟩ : ∃ m, n = m + 1 := ⟨n - 1, by omega⟩
    have : i = a1.length := by omega
    subst this
    refine ⟨ds, ?_, hl, hd, by rw [e, List.take_length]⟩
    show Lshuntref01_Times_0s k (Lshuntref01_Times_0 k n) _ _ _ _ _ _ _ _ _ _ = _
    unfold Lshuntref01_Times_0s
    simp (config := { implicitDefEqProofs := false, maxSteps := 2000000 }) (disch := omega) only [ps, ↓reduceIte, reduceCtorEq, Int.reduceLT, Int.reduceLE, Int.reduceEq, Nat.reduceLT, Nat.reduceLeDiff, Nat.reduceEqDiff, Int.reduceNeg, eitherK]
  | succ d ih =>
    intro i n ds hi hn hl hd e h0
    obtain ⟨n, rfl⟩ : ∃ m, n = m + 1 := ⟨n - 1, by omega⟩
    obtain ⟨a, hai⟩ := get_of (show i < a1.length by omega)
    have hab := ha.get hai
    obtain ⟨c', o', q1, q2, q3, q4, q5, q6⟩ := times_inner k a0 b0 a1 b1 hb i a hai hab (a1.length + b1.length) (by omega) (by omega) b1.length 0 k 0 ds (by omega) (by omega) (by decide) hl hd
    have hz : o'[i + b1.length]? = some 0 := by rw [q6 _ (Nat.le_refl _)]; exact h0 _ (Nat.le_refl _) (by omega)
    have h1 : ((i : Int) + 1) = ((i + 1 : Nat) : Int) := rfl
    have h2 : ((i : Int) + (b1.length : Int)) = ((i + b1.length : Nat) : Int) := rfl
    have e2 : V U (o'.set (i + b1.length) c') = V U (a1.take (i + 1)) * V U b1 := by
      rw [V_set _ hz, V_take_succ hai, Int.sub_zero]
      simp only [Nat.add_zero, List.drop_zero, Int.zero_mul, Int.add_zero] at q5
      rw [e] at q5
      rw [Int.add_mul, Int.mul_comm (U ^ i) a, ← q5, Int.mul_comm c']
    have e3 : ∀ p, (i + 1) + b1.length ≤ p → p < (o'.set (i + b1.length) c').length → (o'.set (i + b1.length) c')[p]? = some 0 := by
      intro p hp hpl
      rw [List.getElem?_set_ne (by omega), q6 p (by omega)]
      exact h0 p (by omega) (by simp at hpl; omega)
    obtain ⟨o2, r1, r2⟩ := ih (i + 1) n (o'.set (i + b1.length) c') (by omega) (by omega) (by simpa using q3) (q4.set _ q2) e2 e3
    refine ⟨o2, ?_, r2⟩
    rw [← r1]
    show Lshuntref01_Times_0s k (Lshuntref01_Times_0 k n) _ _ _ _ _ _ _ _ _ _ = _
    unfold Lshuntref01_Times_0s
    have q1' : Lshuntref01_Times_2 k k (a1.length + b1.length) i 0 0 a0 a1 b0 b1 false 0 ds [] = _ := q1
    unfold U at q2
    simp (config := { implicitDefEqProofs := false, maxSteps := 2000000 }) (disch := omega) only [ps, ↓reduceIte, reduceCtorEq, Int.reduceLT, Int.reduceLE, Int.reduceEq, Nat.reduceLT, Nat.reduceLeDiff, Nat.reduceEqDiff, Int.reduceNeg, eitherK, q1', h1, h2, hz, Int.zero_add]
theorem Times_ev (a0 b0 : Bool) (a1 b1 : List Int) {x y : Int} (nx : Nm U a0 a1 x) (ny : Nm U b0 b1 y) (hx : a1.length ≤ 1000000) (hy : b1.length ≤ 1000000) :
    ∃ s l, Rn (fun k => Fshuntref01_Times k a0 a1 b0 b1) (s, l) ∧ Nm U s l (x * y) ∧ l.length ≤ a1.length + b1.length := by
  have hU : (0 : Int) < U := by decide
  have main : ∀ k, a1.length + b1.length < k → ∃ ds', Lshuntref01_Times_0 k k (a1.length + b1.length) (0 : Int) a0 a1 b0 b1 false 0 (List.replicate (a1.length + b1.length) 0) [] = some (a1.length + b1.length, a0, a1, b0, b1, false, 0, ds', []) ∧ ds'.length = a1.length + b1.length ∧ Dg U ds' ∧ V U ds' = V U a1 * V U b1 := by
    intro k hk
    refine times_outer k a0 b0 a1 b1 nx.c.1 ny.c.1 (by omega) (by omega) (by omega) a1.length 0 k _ (by omega) (by omega) (by simp) (Dg.rep _ hU) (by rw [V_rep]; simp [V]) ?_
    intro p _ hp
    rw [List.getElem?_replicate_of_lt (by simpa using hp)]
  obtain ⟨o, q1, q2, q3, q4⟩ := main (a1.length + b1.length + 1) (by omega)
  have hto := tl_len o
  have hdec : ∀ l : List Int, decide ((0 : Int) < (l.length : Int)) = decide (0 < l.length) := fun l => by congr 1; simp
  refine ⟨if (!(a0 == b0)) = true then decide (0 < (tl o).length) else false, tl o, ?_, (nm_sg (a0 := !(a0 == b0)) (Cn.of q3) (by rw [V_tl, q4])).cast ?_, by omega⟩
  · refine Rn.up (f := fun k => Fshuntref01_Times k a0 a1 b0 b1) (Rn.eq (a1.length + b1.length + 3) fun k hk => ?_)
    show bshuntref01_Times k a0 a1 b0 b1 = _
    unfold bshuntref01_Times
    obtain ⟨o', r1, r2, r3, r4⟩ := main k (by omega)
    have ho : tl o' = tl o := Cn.ext hU (Cn.of r3) (Cn.of q3) (by rw [V_tl, V_tl, r4, q4])
    have hto' := tl_len o'
    have h2 : ((a1.length : Int) + (b1.length : Int)) = ((a1.length + b1.length : Nat) : Int) := rfl
    have ht := rtrim_eq o' (by omega) k (by omega)
    rw [r2] at ht
    have htt := tl_take o'
    rw [ho] at ht htt hto'
    simp (config := { implicitDefEqProofs := false, maxSteps := 2000000 }) (disch := omega) only [ps, ↓reduceIte, reduceCtorEq, Int.reduceLT, Int.reduceLE, Int.reduceEq, Nat.reduceLT, Nat.reduceLeDiff, Nat.reduceEqDiff, Int.reduceNeg, eitherK, h2, r1, ht]
    by_cases hs : a0 = b0
    · simp (config := { implicitDefEqProofs := false, maxSteps := 2000000 }) (disch := omega) only [ps, ↓reduceIte, reduceCtorEq, Int.reduceLT, Int.reduceLE, Int.reduceEq, Nat.reduceLT, Nat.reduceLeDiff, Nat.reduceEqDiff, Int.reduceNeg, eitherK, hs, htt]
    · simp (config := { implicitDefEqProofs := false, maxSteps := 2000000 }) (disch := omega) only [ps, ↓reduceIte, reduceCtorEq, Int.reduceLT, Int.reduceLE, Int.reduceEq, Nat.reduceLT, Nat.reduceLeDiff, Nat.reduceEqDiff, Int.reduceNeg, eitherK, hs, htt, hdec]
  · rw [← nx.z, ← ny.z]
    cases a0 <;> cases b0 <;> simp [Int.neg_mul, Int.mul_neg]
end Go.Proofs.Ytghdpmejgonjmaa.Am
