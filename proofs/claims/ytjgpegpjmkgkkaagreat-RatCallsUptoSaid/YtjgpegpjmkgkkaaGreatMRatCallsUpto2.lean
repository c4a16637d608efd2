/- The law RatCallsUpto returns true for every input, and its arguments read as they did. -/
import Derived.Test.YtjgpegpjmkgkkaaGreatMRatCallsUpto1
import Derived.Test.YtjgpegpjmkgkkaaGreatRows
import Derived.WalkKit
import Derived.ProofKit
import Derived.OpenShut
import Derived.ShutString
import Derived.ChangeOld
import Derived.Below
import Derived.SizedLaws
import Derived.Carry
import Derived.JoinedCond

set_option linter.unusedVariables false
set_option linter.unusedSimpArgs false
set_option maxRecDepth 10000
namespace Go.Proofs.YtjgpegpjmkgkkaaGreat.Am
open Go

theorem U2 (i : Nat) : U ^ (2 * i) = W ^ i := by rw [Int.pow_mul]; rfl
theorem take_loop (k : Nat) (a0 : Bool) (a1 : List Int) (hla : a1.length ≤ 1000000000) (ha : Dg W a1) :
    ∀ (d i n : Nat) (ds : List Int), i + d = a1.length → d < n → ds.length = 2 * i → Dg U ds → V U ds = V W (a1.take i) →
    ∃ ds', Lshuntref01_Take_0 k n (2 * i) i a0 a1 false 0 ds [] = some (2 * a1.length, a0, a1, false, 0, ds', []) ∧ Dg U ds' ∧ ds'.length = 2 * a1.length ∧ V U ds' = V W a1 := by
  intro d
  induction d with
  | zero =>
    intro i n ds hi hn hl hd e
    obtain ⟨n, rfl⟩ : ∃ m, n = m + 1 := ⟨n - 1, by omega⟩
    have hia : i = a1.length := by omega
    subst hia
    refine ⟨ds, ?_, hd, hl, by rw [e, List.take_length]⟩
    show Lshuntref01_Take_0s k (Lshuntref01_Take_0 k n) _ _ _ _ _ _ _ _ = _
    unfold Lshuntref01_Take_0s
    simp (config := { implicitDefEqProofs := false, maxSteps := 2000000 }) (disch := omega) only [ps, ↓reduceIte, reduceCtorEq, Int.reduceLT, Int.reduceLE, Int.reduceEq, Nat.reduceLT, Nat.reduceLeDiff, Nat.reduceEqDiff, Int.reduceNeg, eitherK]
  | succ d ih =>
    intro i n ds hi hn hl hd e
    obtain ⟨n, rfl⟩ : ∃ m, n = m + 1 := ⟨n - 1, by omega⟩
    obtain ⟨x, hx⟩ := get_of (show i < a1.length by omega)
    have hxb := ha.get hx
    have h1 : ((i : Int) + 1) = ((i + 1 : Nat) : Int) := rfl
    have ht : ds.take (2 * i) = ds := List.take_of_length_le (by omega)
    have hdm := Int.emod_add_mul_ediv x 65536
    unfold W at hxb
    have hu : 0 ≤ x / 65536 ∧ x / 65536 < 65536 := by omega
    obtain ⟨ds', q1, q2⟩ := ih (i + 1) n (ds ++ [x % 65536, x / 65536]) (by omega) (by omega) (by simp [hl]; omega) (hd.append (Dg.cons (by unfold U; omega) (Dg.cons hu Dg.nil))) (by
      rw [V_append, V_take_succ hx, hl, U2, e]
      simp only [V]
      unfold U
      grind)
    refine ⟨ds', ?_, q2⟩
    rw [← q1]
    show Lshuntref01_Take_0s k (Lshuntref01_Take_0 k n) _ _ _ _ _ _ _ _ = _
    unfold Lshuntref01_Take_0s
    have h2 : 2 * i + 2 = 2 * (i + 1) := by omega
    simp (config := { implicitDefEqProofs := false, maxSteps := 2000000 }) (disch := omega) only [ps, ↓reduceIte, reduceCtorEq, Int.reduceLT, Int.reduceLE, Int.reduceEq, Nat.reduceLT, Nat.reduceLeDiff, Nat.reduceEqDiff, Int.reduceNeg, eitherK, hx, h1, hl, ht, List.take_succ_cons, List.length_cons, tdiv_pos, tmod_pos, h2]
theorem rTake_ev (a0 : Bool) (a1 : List Int) (hla : a1.length ≤ 1000000000) {z : Int} (hn : Nm W a0 a1 z) : ∃ l, Rn (fun k => Fshuntref01_Take k a0 a1) (a0, l) ∧ Nm U a0 l z ∧ l.length ≤ 2 * a1.length := by
  have main := Cn.uniq (B := U) (v := V W a1) (L := 2 * a1.length) (f := fun k => (Fshuntref01_Take (k + 1) a0 a1).map (·.2)) (by decide) (2 * a1.length + 3) fun k hk => by
    obtain ⟨ds, q1, q2, q3, q4⟩ := take_loop k a0 a1 hla hn.c.1 a1.length 0 k [] (by omega) (by omega) rfl Dg.nil (by simp [V])
    have := tl_len ds
    refine ⟨tl ds, ?_, Cn.of q2, by rw [V_tl, q4], by omega⟩
    have q1' : Lshuntref01_Take_0 k k 0 0 a0 a1 false 0 [] [] = _ := q1
    have ht := rtrim_eq ds (by omega) k (by omega)
    rw [q3] at ht
    show (bshuntref01_Take k a0 a1).map (·.2) = _
    unfold bshuntref01_Take
    rw [q1', Option.bind_some]
    simp only []
    rw [ht, Option.bind_some]
    cases a0
    · simp (config := { implicitDefEqProofs := false, maxSteps := 2000000 }) (disch := omega) only [ps, ↓reduceIte, reduceCtorEq, Int.reduceLT, Int.reduceLE, Int.reduceEq, Nat.reduceLT, Nat.reduceLeDiff, Nat.reduceEqDiff, Int.reduceNeg, eitherK]
      rw [tl_take]; rfl
    · simp (config := { implicitDefEqProofs := false, maxSteps := 2000000 }) (disch := omega) only [ps, ↓reduceIte, reduceCtorEq, Int.reduceLT, Int.reduceLE, Int.reduceEq, Nat.reduceLT, Nat.reduceLeDiff, Nat.reduceEqDiff, Int.reduceNeg, eitherK]
      rw [tl_take]; rfl
  obtain ⟨l, h1, h2, h3, h4⟩ := main
  have hzero : l = [] ↔ a1 = [] := by rw [h2.nil_iff (by decide), h3, hn.c.nil_iff (by decide)]
  have hnm : Nm U a0 l z := ⟨h2, fun hs h0 => hn.sg hs (hzero.1 h0), by rw [h3]; exact hn.z⟩
  refine ⟨l, ?_, hnm, h4⟩
  obtain ⟨K, h1⟩ := h1
  refine Rn.up (f := fun k => Fshuntref01_Take k a0 a1) (Rn.eq (max K (2 * a1.length + 3)) fun k hk => ?_)
  have e := h1 k (by omega)
  obtain ⟨ds, q1, q2, q3, q4⟩ := take_loop k a0 a1 hla hn.c.1 a1.length 0 k [] (by omega) (by omega) rfl Dg.nil (by simp [V])
  have q1' : Lshuntref01_Take_0 k k 0 0 a0 a1 false 0 [] [] = _ := q1
  have ht := rtrim_eq ds (by omega) k (by omega)
  rw [q3] at ht
  have hl : tl ds = l := Cn.ext (B := U) (by decide) (Cn.of q2) h2 (by rw [V_tl, q4, h3])
  have := tl_len ds
  show bshuntref01_Take k a0 a1 = _
  unfold bshuntref01_Take
  rw [q1', Option.bind_some]
  simp only []
  rw [ht, Option.bind_some]
  cases a0
  · simp (config := { implicitDefEqProofs := false, maxSteps := 2000000 }) (disch := omega) only [ps, ↓reduceIte, reduceCtorEq, Int.reduceLT, Int.reduceLE, Int.reduceEq, Nat.reduceLT, Nat.reduceLeDiff, Nat.reduceEqDiff, Int.reduceNeg, eitherK]
    rw [tl_take, hl]
  · have hne : l ≠ [] := fun h0 => hn.sg rfl (hzero.1 h0)
    have hpos : 0 < l.length := by cases l with
      | nil => exact absurd rfl hne
      | cons _ _ => simp
    simp (config := { implicitDefEqProofs := false, maxSteps := 2000000 }) (disch := omega) only [ps, ↓reduceIte, reduceCtorEq, Int.reduceLT, Int.reduceLE, Int.reduceEq, Nat.reduceLT, Nat.reduceLeDiff, Nat.reduceEqDiff, Int.reduceNeg, eitherK, hl]
    have t := tl_take ds
    rw [hl] at t
    rw [t]; rfl

/-- Great enough for its length: in the one form. -/
theorem Cn.of_ge {B : Int} (hB : 1 < B) {l : List Int} (h : Dg B l) (hg : l ≠ [] → B ^ (l.length - 1) ≤ V B l) : Cn B l := by
  refine ⟨h, (Cn.last h).2 ?_⟩
  rcases List.eq_nil_or_concat l with rfl | ⟨m, x, rfl⟩
  · exact .inl rfl
  · rw [List.concat_eq_append] at *
    refine .inr ⟨m, x, rfl, fun h0 => ?_⟩
    subst h0
    have := hg (by simp)
    rw [V_snoc, Int.mul_zero, Int.add_zero] at this
    have h2 := V_lt (B := B) (by omega) (fun y hy => h y (by simp [hy]) : Dg B m)
    simp at this
    omega
theorem give_loop (k : Nat) (a0 : Bool) (a1 : List Int) (hla : a1.length ≤ 1000000000) (ha : Dg U a1) :
    ∀ (d j n : Nat) (m : List Int), a1.length ≤ 2 * (j + d) → 2 * j ≤ a1.length + 1 → d < n → m.length = j → Dg W m → V W m = V U (a1.take (2 * j)) →
    ∃ m', Lshuntref01_Give_0 k n (2 * j : Nat) a0 a1 false 0 a0 j [] m = some (a0, a1, false, 0, a0, m'.length, [], m') ∧ Dg W m' ∧ m'.length = (a1.length + 1) / 2 ∧ V W m' = V U a1 := by
  intro d
  induction d with
  | zero =>
    intro j n m hj hj2 hn hl hd e
    obtain ⟨n, rfl⟩ : ∃ m, n = m + 1 := ⟨n - 1, by omega⟩
    refine ⟨m, ?_, hd, by omega, by rw [e, List.take_of_length_le (by omega)]⟩
    show Lshuntref01_Give_0s k (Lshuntref01_Give_0 k n) _ _ _ _ _ _ _ _ _ = _
    unfold Lshuntref01_Give_0s
    simp (config := { implicitDefEqProofs := false, maxSteps := 2000000 }) (disch := omega) only [ps, ↓reduceIte, reduceCtorEq, Int.reduceLT, Int.reduceLE, Int.reduceEq, Nat.reduceLT, Nat.reduceLeDiff, Nat.reduceEqDiff, Int.reduceNeg, eitherK]
    rw [hl]
  | succ d ih =>
    intro j n m hj hj2 hn hl hd e
    obtain ⟨n, rfl⟩ : ∃ m, n = m + 1 := ⟨n - 1, by omega⟩
    by_cases h0 : 2 * j < a1.length
    · obtain ⟨x, hx⟩ := get_of h0
      have hxb := ha.get hx
      unfold U at hxb
      have ht : m.take j = m := List.take_of_length_le (by omega)
      have h3 : (((2 * j : Nat) : Int) + 2) = ((2 * (j + 1) : Nat) : Int) := by omega
      have t1 := V_take_succ (B := U) hx
      have t2 := V_take_getD (B := U) a1 (2 * j + 1)
      have hyb := ha.getD (B := U) (by decide) (2 * j + 1)
      generalize hy : a1[2 * j + 1]?.getD 0 = y at t2 hyb
      unfold U at hyb
      obtain ⟨m', q1, q2⟩ := ih (j + 1) n (m ++ [x + y * 65536]) (by omega) (by omega) (by omega) (by simp [hl]) (hd.snoc (by unfold W; omega)) (by
        rw [V_snoc, hl, show 2 * (j + 1) = 2 * j + 1 + 1 by omega, t2, t1, e, ← U2, Int.pow_succ]
        unfold U
        grind)
      refine ⟨m', ?_, q2⟩
      rw [← q1]
      show Lshuntref01_Give_0s k (Lshuntref01_Give_0 k n) _ _ _ _ _ _ _ _ _ = _
      unfold Lshuntref01_Give_0s
      by_cases h4 : 2 * j + 1 < a1.length
      · have hy' : a1[2 * j + 1]? = some y := by obtain ⟨z, hz⟩ := get_of h4; rw [hz] at hy ⊢; simpa using hy
        have h5 : (((2 * j : Nat) : Int) + 1) = ((2 * j + 1 : Nat) : Int) := rfl
        simp (config := { implicitDefEqProofs := false, maxSteps := 2000000 }) (disch := omega) only [ps, ↓reduceIte, reduceCtorEq, Int.reduceLT, Int.reduceLE, Int.reduceEq, Nat.reduceLT, Nat.reduceLeDiff, Nat.reduceEqDiff, Int.reduceNeg, eitherK, hx, hy', h5, h3, hl, ht, List.take_succ_cons, List.length_cons]
      · have hy' : y = 0 := by rw [← hy, List.getElem?_eq_none (by omega)]; rfl
        subst hy'
        simp (config := { implicitDefEqProofs := false, maxSteps := 2000000 }) (disch := omega) only [ps, ↓reduceIte, reduceCtorEq, Int.reduceLT, Int.reduceLE, Int.reduceEq, Nat.reduceLT, Nat.reduceLeDiff, Nat.reduceEqDiff, Int.reduceNeg, eitherK, hx, h3, hl, ht, List.take_succ_cons, List.length_cons, Int.zero_mul, Int.add_zero]
    · refine ⟨m, ?_, hd, by omega, by rw [e, List.take_of_length_le (by omega)]⟩
      show Lshuntref01_Give_0s k (Lshuntref01_Give_0 k n) _ _ _ _ _ _ _ _ _ = _
      unfold Lshuntref01_Give_0s
      simp (config := { implicitDefEqProofs := false, maxSteps := 2000000 }) (disch := omega) only [ps, ↓reduceIte, reduceCtorEq, Int.reduceLT, Int.reduceLE, Int.reduceEq, Nat.reduceLT, Nat.reduceLeDiff, Nat.reduceEqDiff, Int.reduceNeg, eitherK]
      rw [hl]
theorem rGive_ev (a0 : Bool) (a1 : List Int) (hla : a1.length ≤ 1000000000) {z : Int} (hn : Nm U a0 a1 z) : ∃ m, Rn (fun k => Fshuntref01_Give k a0 a1) (a0, m) ∧ Nm W a0 m z ∧ m.length = (a1.length + 1) / 2 := by
  have cn : ∀ m, Dg W m → m.length = (a1.length + 1) / 2 → V W m = V U a1 → Cn W m := by
    intro m h1 h2 h3
    refine Cn.of_ge (by decide) h1 fun h0 => ?_
    have hl0 : m.length ≠ 0 := fun e => h0 (List.length_eq_zero_iff.1 e)
    have g := hn.c.ge (B := U) (by decide) (fun e => hl0 (by rw [h2, e]; rfl))
    have p := pow_mono (B := U) (by decide) (show 2 * (m.length - 1) ≤ a1.length - 1 by omega)
    rw [U2] at p
    omega
  obtain ⟨m0, q1, q2, q3, q4⟩ := give_loop (a1.length + 1) a0 a1 hla hn.c.1 a1.length 0 (a1.length + 1) [] (by omega) (by omega) (by omega) rfl Dg.nil (by simp [V])
  have c0 := cn m0 q2 q3 q4
  refine ⟨m0, Rn.up (f := fun k => Fshuntref01_Give k a0 a1) (Rn.eq (a1.length + 1) fun k hk => ?_), ⟨c0, fun hs h0 => hn.sg hs ?_, by rw [q4]; exact hn.z⟩, q3⟩
  · obtain ⟨m, r1, r2, r3, r4⟩ := give_loop k a0 a1 hla hn.c.1 a1.length 0 k [] (by omega) (by omega) (by omega) rfl Dg.nil (by simp [V])
    have hm : m = m0 := Cn.ext (B := W) (by decide) (cn m r2 r3 r4) c0 (by rw [r4, q4])
    subst hm
    have r1' : Lshuntref01_Give_0 k k 0 a0 a1 false 0 a0 0 [] [] = _ := r1
    show bshuntref01_Give k a0 a1 = _
    unfold bshuntref01_Give
    rw [r1', Option.bind_some]
    simp (config := { implicitDefEqProofs := false, maxSteps := 2000000 }) (disch := omega) only [ps, ↓reduceIte, reduceCtorEq, Int.reduceLT, Int.reduceLE, Int.reduceEq, Nat.reduceLT, Nat.reduceLeDiff, Nat.reduceEqDiff, Int.reduceNeg, eitherK, List.take_length]
  · rw [h0] at q4
    exact (hn.c.nil_iff (B := U) (by decide)).2 (by rw [← q4]; rfl)
theorem times_inner (k : Nat) (a0 b0 : Bool) (a1 b1 : List Int) (hb : Dg U b1) (i : Nat) (a : Int) (hai : a1[i]? = some a) (ha : 0 ≤ a ∧ a < U) (n12 : Nat) (hn12 : n12 ≤ 2000000000) (hi : i + b1.length < n12) :
    ∀ (d j n : Nat) (carry : Int) (ds : List Int), j + d = b1.length → d < n → 0 ≤ carry ∧ carry < U → ds.length = n12 → Dg U ds →
    ∃ carry' ds', Lshuntref01_Times_2 k n n12 i carry j a0 a1 b0 b1 false 0 ds [] = some (n12, (i : Int), carry', a0, a1, b0, b1, false, 0, ds', []) ∧ (0 ≤ carry' ∧ carry' < U) ∧ ds'.length = n12 ∧ Dg U ds' ∧
      V U ds' + carry' * U ^ (i + b1.length) = V U ds + carry * U ^ (i + j) + a * U ^ (i + j) * V U (b1.drop j) ∧ ∀ p, i + b1.length ≤ p → ds'[p]? = ds[p]? := by
  intro d
  induction d with
  | zero =>
    intro j n carry ds hj hn hc hl hd
    obtain ⟨n, rfl⟩ : ∃ m, n = m + 1 := ⟨n - 1, by omega⟩
    have : j = b1.length := by omega
    subst this
    refine ⟨carry, ds, ?_, hc, hl, hd, ?_, fun p _ => rfl⟩
    · show Lshuntref01_Times_2s k (Lshuntref01_Times_2 k n) _ _ _ _ _ _ _ _ _ _ _ _ = _
      unfold Lshuntref01_Times_2s
      simp (config := { implicitDefEqProofs := false, maxSteps := 2000000 }) (disch := omega) only [ps, ↓reduceIte, reduceCtorEq, Int.reduceLT, Int.reduceLE, Int.reduceEq, Nat.reduceLT, Nat.reduceLeDiff, Nat.reduceEqDiff, Int.reduceNeg, eitherK]
    · rw [List.drop_length]; simp [V]
  | succ d ih =>
    intro j n carry ds hj hn hc hl hd
    obtain ⟨n, rfl⟩ : ∃ m, n = m + 1 := ⟨n - 1, by omega⟩
    obtain ⟨b, hbj⟩ := get_of (show j < b1.length by omega)
    obtain ⟨o, ho⟩ := get_of (show i + j < ds.length by omega)
    have hbb := hb.get hbj
    have hob := hd.get ho
    have h1 : ((j : Int) + 1) = ((j + 1 : Nat) : Int) := rfl
    have h2 : ((i : Int) + (j : Int)) = ((i + j : Nat) : Int) := rfl
    unfold U at ha hbb hob hc
    have hm1 := Int.mul_nonneg ha.1 hbb.1
    have hm2 : a * b ≤ 65535 * b := Int.mul_le_mul_of_nonneg_right (by omega) hbb.1
    have hdm := Int.emod_add_mul_ediv (o + a * b + carry) U
    obtain ⟨c', o', q1, q2, q3, q4, q5, q6⟩ := ih (j + 1) n ((o + a * b + carry) / U) (ds.set (i + j) ((o + a * b + carry) % U)) (by omega) (by omega) (by unfold U; omega) (by simpa using hl) (hd.set _ (by unfold U; omega))
    refine ⟨c', o', ?_, q2, q3, q4, ?_, fun p hp => ?_⟩
    · rw [← q1]
      show Lshuntref01_Times_2s k (Lshuntref01_Times_2 k n) _ _ _ _ _ _ _ _ _ _ _ _ = _
      unfold Lshuntref01_Times_2s
      simp (config := { implicitDefEqProofs := false, maxSteps := 2000000 }) (disch := omega) only [ps, ↓reduceIte, reduceCtorEq, Int.reduceLT, Int.reduceLE, Int.reduceEq, Nat.reduceLT, Nat.reduceLeDiff, Nat.reduceEqDiff, Int.reduceNeg, eitherK, hai, hbj, h1, h2, ho, tdiv_pos, tmod_pos]
    · rw [q5, V_set _ ho, V_drop hbj, ← Nat.add_assoc, Int.pow_succ]
      grind
    · rw [q6 p hp, List.getElem?_set_ne (by omega)]
theorem times_outer (k : Nat) (a0 b0 : Bool) (a1 b1 : List Int) (ha : Dg U a1) (hb : Dg U b1) (hla : a1.length ≤ 1000000000) (hlb : b1.length ≤ 1000000000) (hk : b1.length < k) :
    ∀ (d i n : Nat) (ds : List Int), i + d = a1.length → d < n → ds.length = a1.length + b1.length → Dg U ds → V U ds = V U (a1.take i) * V U b1 → (∀ p, i + b1.length ≤ p → p < ds.length → ds[p]? = some 0) →
    ∃ ds', Lshuntref01_Times_0 k n (a1.length + b1.length) i a0 a1 b0 b1 false 0 ds [] = some (a1.length + b1.length, a0, a1, b0, b1, false, 0, ds', []) ∧ ds'.length = a1.length + b1.length ∧ Dg U ds' ∧ V U ds' = V U a1 * V U b1 := by
  intro d
  induction d with
  | zero =>
    intro i n ds hi hn hl hd e h0
    obtain ⟨n, rfl⟩ : ∃ m, n = m + 1 := ⟨n - 1, by omega⟩
    have : i = a1.length := by omega
    subst this
    refine ⟨ds, ?_, hl, hd, by rw [e, List.take_length]⟩
    show Lshuntref01_Times_0s k (Lshuntref01_Times_0 k n) _ _ _ _ _ _ _ _ _ _ = _
    unfold Lshuntref01_Times_0s
    simp (config := { implicitDefEqProofs := false, maxSteps := 2000000 }) (disch := omega) only [ps, ↓reduceIte, reduceCtorEq, Int.reduceLT, Int.reduceLE, Int.reduceEq, Nat.reduceLT, Nat.reduceLeDiff, Nat.reduceEqDiff, Int.reduceNeg, eitherK]
  | succ d ih =>
    intro i n ds hi hn hl hd e h0
    obtain ⟨n, rfl⟩ : ∃ m, n = m + 1 := ⟨n - 1, by omega⟩
    obtain ⟨a, hai⟩ := get_of (show i < a1.length by omega)
    have hab := ha.get hai
    obtain ⟨c', o', q1, q2, q3, q4, q5, q6⟩ := times_inner k a0 b0 a1 b1 hb i a hai hab (a1.length + b1.length) (by omega) (by omega) b1.length 0 k 0 ds (by omega) (by omega) (by decide) hl hd
    have hz : o'[i + b1.length]? = some 0 := by rw [q6 _ (Nat.le_refl _)]; exact h0 _ (Nat.le_refl _) (by omega)
    have h1 : ((i : Int) + 1) = ((i + 1 : Nat) : Int) := rfl
    have h2 : ((i : Int) + (b1.length : Int)) = ((i + b1.length : Nat) : Int) := rfl
    have e2 : V U (o'.set (i + b1.length) c') = V U (a1.take (i + 1)) * V U b1 := by
      rw [V_set _ hz, V_take_succ hai, Int.sub_zero]
      simp only [Nat.add_zero, List.drop_zero, Int.zero_mul, Int.add_zero] at q5
      rw [e] at q5
      rw [Int.add_mul, Int.mul_comm (U ^ i) a, ← q5, Int.mul_comm c']
    have e3 : ∀ p, (i + 1) + b1.length ≤ p → p < (o'.set (i + b1.length) c').length → (o'.set (i + b1.length) c')[p]? = some 0 := by
      intro p hp hpl
      rw [List.getElem?_set_ne (by omega), q6 p (by omega)]
      exact h0 p (by omega) (by simp at hpl; omega)
    obtain ⟨o2, r1, r2⟩ := ih (i + 1) n (o'.set (i + b1.length) c') (by omega) (by omega) (by simpa using q3) (q4.set _ q2) e2 e3
    refine ⟨o2, ?_, r2⟩
    rw [← r1]
    show Lshuntref01_Times_0s k (Lshuntref01_Times_0 k n) _ _ _ _ _ _ _ _ _ _ = _
    unfold Lshuntref01_Times_0s
    have q1' : Lshuntref01_Times_2 k k (a1.length + b1.length) i 0 0 a0 a1 b0 b1 false 0 ds [] = _ := q1
    unfold U at q2
    simp (config := { implicitDefEqProofs := false, maxSteps := 2000000 }) (disch := omega) only [ps, ↓reduceIte, reduceCtorEq, Int.reduceLT, Int.reduceLE, Int.reduceEq, Nat.reduceLT, Nat.reduceLeDiff, Nat.reduceEqDiff, Int.reduceNeg, eitherK, q1', h1, h2, hz, Int.zero_add]
theorem Times_ev (a0 b0 : Bool) (a1 b1 : List Int) {x y : Int} (nx : Nm U a0 a1 x) (ny : Nm U b0 b1 y) (hx : a1.length ≤ 1000000) (hy : b1.length ≤ 1000000) :
    ∃ s l, Rn (fun k => Fshuntref01_Times k a0 a1 b0 b1) (s, l) ∧ Nm U s l (x * y) ∧ l.length ≤ a1.length + b1.length := by
  have hU : (0 : Int) < U := by decide
  have main : ∀ k, a1.length + b1.length < k → ∃ ds', Lshuntref01_Times_0 k k (a1.length + b1.length) (0 : Int) a0 a1 b0 b1 false 0 (List.replicate (a1.length + b1.length) 0) [] = some (a1.length + b1.length, a0, a1, b0, b1, false, 0, ds', []) ∧ ds'.length = a1.length + b1.length ∧ Dg U ds' ∧ V U ds' = V U a1 * V U b1 := by
    intro k hk
    refine times_outer k a0 b0 a1 b1 nx.c.1 ny.c.1 (by omega) (by omega) (by omega) a1.length 0 k _ (by omega) (by omega) (by simp) (Dg.rep _ hU) (by rw [V_rep]; simp [V]) ?_
    intro p _ hp
    rw [List.getElem?_replicate_of_lt (by simpa using hp)]
  obtain ⟨o, q1, q2, q3, q4⟩ := main (a1.length + b1.length + 1) (by omega)
  have hto := tl_len o
  have hdec : ∀ l : List Int, decide ((0 : Int) < (l.length : Int)) = decide (0 < l.length) := fun l => by congr 1; simp
  refine ⟨if (!(a0 == b0)) = true then decide (0 < (tl o).length) else false, tl o, ?_, (nm_sg (a0 := !(a0 == b0)) (Cn.of q3) (by rw [V_tl, q4])).cast ?_, by omega⟩
  · refine Rn.up (f := fun k => Fshuntref01_Times k a0 a1 b0 b1) (Rn.eq (a1.length + b1.length + 3) fun k hk => ?_)
    show bshuntref01_Times k a0 a1 b0 b1 = _
    unfold bshuntref01_Times
    obtain ⟨o', r1, r2, r3, r4⟩ := main k (by omega)
    have ho : tl o' = tl o := Cn.ext hU (Cn.of r3) (Cn.of q3) (by rw [V_tl, V_tl, r4, q4])
    have hto' := tl_len o'
    have h2 : ((a1.length : Int) + (b1.length : Int)) = ((a1.length + b1.length : Nat) : Int) := rfl
    have ht := rtrim_eq o' (by omega) k (by omega)
    rw [r2] at ht
    have htt := tl_take o'
    rw [ho] at ht htt hto'
    simp (config := { implicitDefEqProofs := false, maxSteps := 2000000 }) (disch := omega) only [ps, ↓reduceIte, reduceCtorEq, Int.reduceLT, Int.reduceLE, Int.reduceEq, Nat.reduceLT, Nat.reduceLeDiff, Nat.reduceEqDiff, Int.reduceNeg, eitherK, h2, r1, ht]
    by_cases hs : a0 = b0
    · simp (config := { implicitDefEqProofs := false, maxSteps := 2000000 }) (disch := omega) only [ps, ↓reduceIte, reduceCtorEq, Int.reduceLT, Int.reduceLE, Int.reduceEq, Nat.reduceLT, Nat.reduceLeDiff, Nat.reduceEqDiff, Int.reduceNeg, eitherK, hs, htt]
    · simp (config := { implicitDefEqProofs := false, maxSteps := 2000000 }) (disch := omega) only [ps, ↓reduceIte, reduceCtorEq, Int.reduceLT, Int.reduceLE, Int.reduceEq, Nat.reduceLT, Nat.reduceLeDiff, Nat.reduceEqDiff, Int.reduceNeg, eitherK, hs, htt, hdec]
  · rw [← nx.z, ← ny.z]
    cases a0 <;> cases b0 <;> simp [Int.neg_mul, Int.mul_neg]
end Go.Proofs.YtjgpegpjmkgkkaaGreat.Am

/- Plain reckoning: the reference's division. -/
set_option linter.unusedVariables false
set_option linter.unusedSimpArgs false
set_option maxRecDepth 10000
namespace Go.Proofs.YtjgpegpjmkgkkaaGreat.Am
open Go

theorem rdiv_uniq {X Y Q R : Int} (h : Y * Q + R = X) (h0 : 0 ≤ R) (h1 : R < Y) : Q = X / Y ∧ R = X % Y := by
  subst h
  have hY : Y ≠ 0 := by omega
  constructor
  · rw [Int.add_comm, Int.add_mul_ediv_left _ _ hY, Int.ediv_eq_zero_of_lt h0 h1]; omega
  · rw [Int.add_comm, Int.add_mul_emod_self_left, Int.emod_eq_of_lt h0 h1]
theorem rtdiv_sg (sx sy : Bool) {X Y : Int} (hX : 0 ≤ X) : (if sx then -X else X).tdiv (if sy then -Y else Y) = if (!(sx == sy)) then -(X / Y) else X / Y := by
  have h : X.tdiv Y = X / Y := tdiv_pos hX
  cases sx <;> cases sy <;> simp [Int.neg_tdiv, Int.tdiv_neg, h]
theorem rtmod_sg (sx sy : Bool) {X Y : Int} (hX : 0 ≤ X) : (if sx then -X else X).tmod (if sy then -Y else Y) = if sx then -(X % Y) else X % Y := by
  have h : X.tmod Y = X % Y := tmod_pos hX
  cases sx <;> cases sy <;> simp [Int.neg_tmod, Int.tmod_neg, h]
theorem le_div_iff {q r b : Int} (hb : 0 < b) : b * q ≤ r ↔ q ≤ r / b := by
  rw [Int.le_ediv_iff_mul_le hb, Int.mul_comm]
theorem digit_loop (r b : List Int) (cr : Cn U r) (cb : Cn U b) (hb : 0 < V U b) (hlr : r.length ≤ 900000) (hlb : b.length ≤ 900000) :
    ∀ (m : Nat) (low high : Int), high - low < 2 ^ m → 0 ≤ low → low ≤ V U r / V U b → V U r / V U b ≤ high → high ≤ 65535 →
    ∃ K, ∀ k n, K ≤ k → m < n → Lshuntref01_digit_0 k n r b low high = some (V U r / V U b) := by
  intro m
  induction m with
  | zero =>
    intro low high h1 h2 h3 h4 h5
    refine ⟨0, fun k n _ hn => ?_⟩
    obtain ⟨n, rfl⟩ : ∃ m, n = m + 1 := ⟨n - 1, by omega⟩
    have : low = V U r / V U b := by simp at h1; omega
    rw [← this] at h4 ⊢
    show Lshuntref01_digit_0s k (Lshuntref01_digit_0 k n) _ _ _ _ = _
    unfold Lshuntref01_digit_0s
    simp at h1
    simp (config := { implicitDefEqProofs := false, maxSteps := 2000000 }) (disch := omega) only [ps, ↓reduceIte, reduceCtorEq, Int.reduceLT, Int.reduceLE, Int.reduceEq, Nat.reduceLT, Nat.reduceLeDiff, Nat.reduceEqDiff, Int.reduceNeg, eitherK]
  | succ m ih =>
    intro low high h1 h2 h3 h4 h5
    by_cases h : low < high
    · have hm : high - low < 2 * 2 ^ m := by rw [Int.pow_succ] at h1; omega
      obtain ⟨q, hq⟩ : ∃ q, q = (low + high + 1) / 2 := ⟨_, rfl⟩
      obtain ⟨l, ⟨K1, s1⟩, s2, s3⟩ := Small_ev q (by omega)
      have hq0 : decide (q < 0) = false := by simp; omega
      rw [hq0] at s1 s2
      obtain ⟨s, t, ⟨K2, t1⟩, t2, t3⟩ := Times_ev false false b l (nm_pos cb rfl) s2 (by omega) (by omega)
      obtain ⟨K3, c1⟩ := mags_ev t r (by omega) (by omega) t2.c cr
      have hvt : V U t = V U b * q := by
        have e := t2.abs (by decide)
        have : 0 ≤ V U b * q := Int.mul_nonneg (by omega) (by omega)
        omega
      rw [hvt] at c1
      have e1 : IntKind.i64.wrap (Int.tdiv (IntKind.i64.wrap (IntKind.i64.wrap (low + high) + 1)) 2) = q := by
        rw [wrap_i64 (x := low + high) (by omega), wrap_i64 (x := low + high + 1) (by omega), tdiv_pos (by omega), wrap_i64 (by omega)]
        exact hq.symm
      by_cases hle : V U b * q ≤ V U r
      · obtain ⟨K4, i1⟩ := ih q high (by omega) (by omega) ((le_div_iff hb).1 hle) h4 h5
        refine ⟨max K1 (max K2 (max K3 K4)), fun k n hk hn => ?_⟩
        obtain ⟨n, rfl⟩ : ∃ m, n = m + 1 := ⟨n - 1, by omega⟩
        rw [← i1 k n (by omega) (by omega)]
        have c := c1 k (by omega)
        obtain ⟨cz, hcz, hcases⟩ := cmpZ_cases (V U b * q) (V U r)
        rw [hcz] at c
        have a1 := s1 k (by omega)
        have a2 := t1 k (by omega)
        show Lshuntref01_digit_0s k (Lshuntref01_digit_0 k n) _ _ _ _ = _
        unfold Lshuntref01_digit_0s
        rw [e1]
        simp (config := { implicitDefEqProofs := false, maxSteps := 2000000 }) (disch := omega) only [ps, ↓reduceIte, reduceCtorEq, Int.reduceLT, Int.reduceLE, Int.reduceEq, Nat.reduceLT, Nat.reduceLeDiff, Nat.reduceEqDiff, Int.reduceNeg, eitherK, a1, a2, c]
      · have hgt : V U r / V U b ≤ q - 1 := by
          have := mt (le_div_iff hb).2 hle
          omega
        obtain ⟨K4, i1⟩ := ih low (q - 1) (by omega) (by omega) h3 hgt (by omega)
        refine ⟨max K1 (max K2 (max K3 K4)), fun k n hk hn => ?_⟩
        obtain ⟨n, rfl⟩ : ∃ m, n = m + 1 := ⟨n - 1, by omega⟩
        rw [← i1 k n (by omega) (by omega)]
        have c := c1 k (by omega)
        obtain ⟨cz, hcz, hcases⟩ := cmpZ_cases (V U b * q) (V U r)
        rw [hcz] at c
        have a1 := s1 k (by omega)
        have a2 := t1 k (by omega)
        show Lshuntref01_digit_0s k (Lshuntref01_digit_0 k n) _ _ _ _ = _
        unfold Lshuntref01_digit_0s
        rw [e1]
        simp (config := { implicitDefEqProofs := false, maxSteps := 2000000 }) (disch := omega) only [ps, ↓reduceIte, reduceCtorEq, Int.reduceLT, Int.reduceLE, Int.reduceEq, Nat.reduceLT, Nat.reduceLeDiff, Nat.reduceEqDiff, Int.reduceNeg, eitherK, a1, a2, c]
    · refine ⟨0, fun k n _ hn => ?_⟩
      obtain ⟨n, rfl⟩ : ∃ m, n = m + 1 := ⟨n - 1, by omega⟩
      have : low = V U r / V U b := by omega
      rw [← this] at h4 ⊢
      show Lshuntref01_digit_0s k (Lshuntref01_digit_0 k n) _ _ _ _ = _
      unfold Lshuntref01_digit_0s
      simp (config := { implicitDefEqProofs := false, maxSteps := 2000000 }) (disch := omega) only [ps, ↓reduceIte, reduceCtorEq, Int.reduceLT, Int.reduceLE, Int.reduceEq, Nat.reduceLT, Nat.reduceLeDiff, Nat.reduceEqDiff, Int.reduceNeg, eitherK]
theorem digit_ev (r b : List Int) (cr : Cn U r) (cb : Cn U b) (hb : 0 < V U b) (hlr : r.length ≤ 900000) (hlb : b.length ≤ 900000) (hq : V U r < U * V U b) : Rn (fun k => Fshuntref01_digit k r b) (V U r / V U b) := by
  refine Rn.up (f := fun k => Fshuntref01_digit k r b) ?_
  show Rn (fun k => bshuntref01_digit k r b) _
  unfold bshuntref01_digit
  have hr0 := V_nonneg (B := U) (by decide) cr.1
  refine Rn.bind (mags_ev r b (by omega) (by omega) cr cb) ?_
  obtain ⟨cz, hcz, hcases⟩ := cmpZ_cases (V U r) (V U b)
  rw [hcz]
  by_cases h : V U r < V U b
  · have : V U r / V U b = 0 := Int.ediv_eq_zero_of_lt hr0 h
    rw [this]
    (first | (refine Rn.t ?hc ?_; case hc => simp (config := { implicitDefEqProofs := false, maxSteps := 2000000 }) (disch := omega) only [ps, ↓reduceIte, reduceCtorEq, Int.reduceLT, Int.reduceLE, Int.reduceEq, Nat.reduceLT, Nat.reduceLeDiff, Nat.reduceEqDiff, Int.reduceNeg, eitherK]) | (refine Rn.f ?hc ?_; case hc => simp (config := { implicitDefEqProofs := false, maxSteps := 2000000 }) (disch := omega) only [ps, ↓reduceIte, reduceCtorEq, Int.reduceLT, Int.reduceLE, Int.reduceEq, Nat.reduceLT, Nat.reduceLeDiff, Nat.reduceEqDiff, Int.reduceNeg, eitherK]))
    exact Rn.pure _
  · have q0 : 0 ≤ V U r / V U b := Int.ediv_nonneg hr0 (by omega)
    have q1 : V U r / V U b < U := Int.ediv_lt_of_lt_mul hb hq
    have q2 : V U r / V U b < 65536 := q1
    obtain ⟨K, h1⟩ := digit_loop r b cr cb hb hlr hlb 16 0 65535 (by decide) (by decide) q0 (by omega) (by decide)
    (first | (refine Rn.t ?hc ?_; case hc => simp (config := { implicitDefEqProofs := false, maxSteps := 2000000 }) (disch := omega) only [ps, ↓reduceIte, reduceCtorEq, Int.reduceLT, Int.reduceLE, Int.reduceEq, Nat.reduceLT, Nat.reduceLeDiff, Nat.reduceEqDiff, Int.reduceNeg, eitherK]) | (refine Rn.f ?hc ?_; case hc => simp (config := { implicitDefEqProofs := false, maxSteps := 2000000 }) (disch := omega) only [ps, ↓reduceIte, reduceCtorEq, Int.reduceLT, Int.reduceLE, Int.reduceEq, Nat.reduceLT, Nat.reduceLeDiff, Nat.reduceEqDiff, Int.reduceNeg, eitherK]))
    exact Rn.bind (Rn.eq (K + 17) fun k hk => h1 k k (by omega) (by omega)) (Rn.pure _)
end Go.Proofs.YtjgpegpjmkgkkaaGreat.Am

/- Plain reckoning: the reference's division, its main loop. -/
set_option linter.unusedVariables false
set_option linter.unusedSimpArgs false
set_option maxRecDepth 10000
namespace Go.Proofs.YtjgpegpjmkgkkaaGreat.Am
open Go

/-- What one round needs. -/
theorem div_round (b1 r : List Int) (x1 : Int) (hx : 0 ≤ x1 ∧ x1 < U) (cb : Cn U b1) (hb : 0 < V U b1) (cr : Cn U r) (hr : V U r < V U b1) (hlr : r.length ≤ 800000) (hlb : b1.length ≤ 800000) :
    ∃ d, (0 ≤ d ∧ d < U) ∧ Rn (fun k => Fshuntref01_digit k (tl (x1 :: r)) b1) d ∧ Rn (fun k => Fshuntref01_trim_mfi k (1 + r.length) (x1 :: r)) ((tl (x1 :: r)).length, x1 :: r) ∧
      (d = 0 → V U (tl (x1 :: r)) < V U b1) ∧ (0 < d → ∃ l s t m, Rn (fun k => Fshuntref01_Small k d) (false, l) ∧ Rn (fun k => Fshuntref01_Times k false b1 false l) (s, t) ∧ Rn (fun k => Fshuntref01_minus k (tl (x1 :: r)) t) m ∧
        Cn U m ∧ V U m < V U b1 ∧ V U m + V U b1 * d = x1 + U * V U r ∧ m.length ≤ b1.length) := by
  have hr0 := V_nonneg (B := U) (by decide) cr.1
  have dn : Dg U (x1 :: r) := Dg.cons hx cr.1
  have cn : Cn U (tl (x1 :: r)) := Cn.of dn
  have vn : V U (tl (x1 :: r)) = x1 + U * V U r := by rw [V_tl]; rfl
  have ln := tl_len (x1 :: r)
  have hlen : (x1 :: r).length = r.length + 1 := rfl
  have hlt : V U (tl (x1 :: r)) < U * V U b1 := by
    have : U * (V U r + 1) ≤ U * V U b1 := Int.mul_le_mul_of_nonneg_left (by omega) (by decide)
    rw [vn]; rw [Int.mul_add, Int.mul_one] at this; omega
  have hn0 := V_nonneg (B := U) (by decide) cn.1
  have hd := digit_ev (tl (x1 :: r)) b1 cn cb hb (by omega) (by omega) hlt
  have q0 : 0 ≤ V U (tl (x1 :: r)) / V U b1 := Int.ediv_nonneg hn0 (by omega)
  have q1 : V U (tl (x1 :: r)) / V U b1 < U := Int.ediv_lt_of_lt_mul hb hlt
  have qm := Int.emod_add_mul_ediv (V U (tl (x1 :: r))) (V U b1)
  have qa := Int.emod_nonneg (V U (tl (x1 :: r))) (show V U b1 ≠ 0 by omega)
  have qb := Int.emod_lt_of_pos (V U (tl (x1 :: r))) hb
  refine ⟨_, ⟨q0, q1⟩, hd, ?_, ?_, ?_⟩
  · have := rtrim_ev (1 + r.length) (x1 :: r) (by omega) (by omega)
    rwa [List.take_of_length_le (by omega)] at this
  · intro h; rw [h] at qm; omega
  · intro h
    generalize V U (tl (x1 :: r)) / V U b1 = d at *
    have q2 : d < 65536 := q1
    obtain ⟨l, s1, s2, s3⟩ := Small_ev d (by omega)
    have hq0 : decide (d < 0) = false := by simp; omega
    rw [hq0] at s1 s2
    obtain ⟨s, t, t1, t2, t3⟩ := Times_ev false false b1 l (nm_pos cb rfl) s2 (by omega) (by omega)
    have hvt : V U t = V U b1 * d := by
      have e := t2.abs (by decide)
      have : 0 ≤ V U b1 * d := Int.mul_nonneg (by omega) (by omega)
      omega
    obtain ⟨m, m1, m2, m3, m4⟩ := minus_ev (tl (x1 :: r)) t (by omega) cn.1 t2.c (by omega)
    refine ⟨l, s, t, m, s1, t1, m1, m2, by omega, by omega, ?_⟩
    refine Nat.le_of_not_lt fun hlt => ?_
    have := Cn.len_lt (B := U) (by decide) cb m2 hlt
    omega
/-- The loop's state: the rest stands in a cell's memory, or as its own. -/
def Dst (q : Nat) (i : Int) (a0 : Bool) (a1 : List Int) (b0 : Bool) (b1 qs r : List Int) (x : ((Nat × Nat × Int × Bool × List Int × Bool × List Int × Bool × Nat × Bool × Nat × List Int × List Int × List Int × List Int) ⊕ (Nat × List Int × Int × Bool × List Int × Bool × List Int × Bool × Nat × Bool × Nat × List Int × List Int × List Int))) : Prop :=
  (∃ mem m1 m2, x = .inl (q, r.length, i, a0, a1, b0, b1, false, 0, false, 0, qs, mem, m1, m2) ∧ r.length ≤ mem.length ∧ mem.take r.length = r) ∨ (∃ m1 m2, x = .inr (q, r, i, a0, a1, b0, b1, false, 0, false, 0, qs, m1, m2))
def Dout (q : Nat) (a0 : Bool) (a1 : List Int) (b0 : Bool) (b1 qs r : List Int) (x : ((Nat × Nat × Bool × List Int × Bool × List Int × Bool × Nat × Bool × Nat × List Int × List Int × List Int × List Int) ⊕ (Nat × List Int × Bool × List Int × Bool × List Int × Bool × Nat × Bool × Nat × List Int × List Int × List Int))) : Prop :=
  (∃ mem m1 m2, x = .inl (q, r.length, a0, a1, b0, b1, false, 0, false, 0, qs, mem, m1, m2) ∧ r.length ≤ mem.length ∧ mem.take r.length = r) ∨ (∃ m1 m2, x = .inr (q, r, a0, a1, b0, b1, false, 0, false, 0, qs, m1, m2))
theorem div_alg {b vq vr x d va vm : Int} (h : b * vq + vr = va) (e : vm + b * d = x + U * vr) : b * (d + U * vq) + vm = x + U * va := by
  subst h; grind
theorem div_loop (a0 b0 : Bool) (a1 b1 : List Int) (da : Dg U a1) (cb : Cn U b1) (hb : 0 < V U b1) (hla : a1.length ≤ 800000) (hlb : b1.length ≤ 800000) :
    ∀ (e : Nat) (qs r : List Int) x, e ≤ a1.length → qs.length = a1.length → Dg U qs → Cn U r → V U r < V U b1 → V U b1 * V U (qs.drop e) + V U r = V U (a1.drop e) → Dst a1.length ((e : Int) - 1) a0 a1 b0 b1 qs r x →
    ∃ qs' r' y, Dout a1.length a0 a1 b0 b1 qs' r' y ∧ (qs'.length = a1.length ∧ Dg U qs' ∧ Cn U r' ∧ V U r' < V U b1 ∧ V U b1 * V U qs' + V U r' = V U a1) ∧ ∃ K, ∀ k n, K ≤ k → e < n → Lshuntref01_Divide_0 k n x = some y := by
  intro e
  induction e with
  | zero =>
    intro qs r x he hl dq cr hr hv hx
    rcases hx with ⟨mem, m1, m2, rfl, h1, h2⟩ | ⟨m1, m2, rfl⟩
    · refine ⟨qs, r, _, .inl ⟨mem, m1, m2, rfl, h1, h2⟩, ⟨hl, dq, cr, hr, by simpa using hv⟩, 0, fun k n _ hn => ?_⟩
      obtain ⟨n, rfl⟩ : ∃ m, n = m + 1 := ⟨n - 1, by omega⟩
      show Lshuntref01_Divide_0s k (Lshuntref01_Divide_0 k n) _ = _
      unfold Lshuntref01_Divide_0s
      simp (config := { implicitDefEqProofs := false, maxSteps := 2000000 }) (disch := omega) only [ps, ↓reduceIte, reduceCtorEq, Int.reduceLT, Int.reduceLE, Int.reduceEq, Nat.reduceLT, Nat.reduceLeDiff, Nat.reduceEqDiff, Int.reduceNeg, eitherK, eitherK, Int.zero_sub, Int.natCast_zero]
    · refine ⟨qs, r, _, .inr ⟨m1, m2, rfl⟩, ⟨hl, dq, cr, hr, by simpa using hv⟩, 0, fun k n _ hn => ?_⟩
      obtain ⟨n, rfl⟩ : ∃ m, n = m + 1 := ⟨n - 1, by omega⟩
      show Lshuntref01_Divide_0s k (Lshuntref01_Divide_0 k n) _ = _
      unfold Lshuntref01_Divide_0s
      simp (config := { implicitDefEqProofs := false, maxSteps := 2000000 }) (disch := omega) only [ps, ↓reduceIte, reduceCtorEq, Int.reduceLT, Int.reduceLE, Int.reduceEq, Nat.reduceLT, Nat.reduceLeDiff, Nat.reduceEqDiff, Int.reduceNeg, eitherK, eitherK, Int.zero_sub, Int.natCast_zero]
  | succ j ih =>
    intro qs r x he hl dq cr hr hv hx
    have hlr : r.length ≤ b1.length := by
      refine Nat.le_of_not_lt fun hlt => ?_
      have := Cn.len_lt (B := U) (by decide) cb cr hlt
      omega
    obtain ⟨x1, hx1⟩ := get_of (show j < a1.length by omega)
    obtain ⟨x2, hx2⟩ := get_of (show j < qs.length by omega)
    obtain ⟨d, hd, ⟨K1, h1⟩, ⟨K2, h2⟩, h3, h4⟩ := div_round b1 r x1 (da.get hx1) cb hb cr hr (by omega) hlb
    have hjj : ((j + 1 : Nat) : Int) - 1 = (j : Int) := by omega
    have hdrop : (qs.set j d).drop j = d :: qs.drop (j + 1) := by
      rw [List.drop_eq_getElem_cons (by simp; omega)]
      simp [List.drop_set_of_lt]
    have htl := tl_take (x1 :: r)
    have ltl := tl_len (x1 :: r)
    have hlen : (x1 :: r).length = r.length + 1 := rfl
    have hVa := V_drop (B := U) hx1
    rw [hjj] at hx
    by_cases hd0 : d = 0
    · have hlt := h3 hd0
      subst hd0
      have cn : Cn U (tl (x1 :: r)) := Cn.of (Dg.cons (da.get hx1) cr.1)
      have vn : V U (tl (x1 :: r)) = x1 + U * V U r := by rw [V_tl]; rfl
      have key := ih (qs.set j 0) (tl (x1 :: r))
      have hvv : V U b1 * V U ((qs.set j 0).drop j) + V U (tl (x1 :: r)) = V U (a1.drop j) := by
        rw [hdrop, hVa]; simp only [V]; exact div_alg hv (by rw [vn]; omega)
      rcases hx with ⟨mem, m1, m2, rfl, g1, g2⟩ | ⟨m1, m2, rfl⟩
      · obtain ⟨qs', r', y, i1, i2, K, i3⟩ := key _ (by omega) (by simpa using hl) (dq.set j hd) cn hlt hvv (.inl ⟨x1 :: r, m1, m2, rfl, ltl, htl⟩)
        refine ⟨qs', r', y, i1, i2, max K (max K1 K2), fun k n hk hn => ?_⟩
        obtain ⟨n, rfl⟩ : ∃ m, n = m + 1 := ⟨n - 1, by omega⟩
        rw [← i3 k n (by omega) (by omega)]
        have c1 := h1 k (by omega)
        have c2 := h2 k (by omega)
        show Lshuntref01_Divide_0s k (Lshuntref01_Divide_0 k n) _ = _
        unfold Lshuntref01_Divide_0s
        simp only [eitherK]
        simp (config := { implicitDefEqProofs := false, maxSteps := 2000000 }) (disch := omega) only [ps, ↓reduceIte, reduceCtorEq, Int.reduceLT, Int.reduceLE, Int.reduceEq, Nat.reduceLT, Nat.reduceLeDiff, Nat.reduceEqDiff, Int.reduceNeg, eitherK, g2, hx1, hx2, c1, c2, htl, List.take_succ_cons, List.cons_append]
      · obtain ⟨qs', r', y, i1, i2, K, i3⟩ := key _ (by omega) (by simpa using hl) (dq.set j hd) cn hlt hvv (.inl ⟨x1 :: r, m1, m2, rfl, ltl, htl⟩)
        refine ⟨qs', r', y, i1, i2, max K (max K1 K2), fun k n hk hn => ?_⟩
        obtain ⟨n, rfl⟩ : ∃ m, n = m + 1 := ⟨n - 1, by omega⟩
        rw [← i3 k n (by omega) (by omega)]
        have c1 := h1 k (by omega)
        have c2 := h2 k (by omega)
        show Lshuntref01_Divide_0s k (Lshuntref01_Divide_0 k n) _ = _
        unfold Lshuntref01_Divide_0s
        simp only [eitherK]
        simp (config := { implicitDefEqProofs := false, maxSteps := 2000000 }) (disch := omega) only [ps, ↓reduceIte, reduceCtorEq, Int.reduceLT, Int.reduceLE, Int.reduceEq, Nat.reduceLT, Nat.reduceLeDiff, Nat.reduceEqDiff, Int.reduceNeg, eitherK, hx1, hx2, c1, c2, htl, List.take_succ_cons, List.cons_append]
    · obtain ⟨l, s, t, m, ⟨K3, s1⟩, ⟨K4, s2⟩, ⟨K5, s3⟩, s4, s5, s6, s7⟩ := h4 (by omega)
      have key := ih (qs.set j d) m
      have hvv : V U b1 * V U ((qs.set j d).drop j) + V U m = V U (a1.drop j) := by
        rw [hdrop, hVa]; simp only [V]; exact div_alg hv s6
      rcases hx with ⟨mem, m1, m2, rfl, g1, g2⟩ | ⟨m1, m2, rfl⟩
      · obtain ⟨qs', r', y, i1, i2, K, i3⟩ := key _ (by omega) (by simpa using hl) (dq.set j hd) s4 s5 hvv (.inr ⟨m1, m2, rfl⟩)
        refine ⟨qs', r', y, i1, i2, max K (max (max K1 K2) (max K3 (max K4 K5))), fun k n hk hn => ?_⟩
        obtain ⟨n, rfl⟩ : ∃ m, n = m + 1 := ⟨n - 1, by omega⟩
        rw [← i3 k n (by omega) (by omega)]
        have c1 := h1 k (by omega)
        have c2 := h2 k (by omega)
        have c3 := s1 k (by omega)
        have c4 := s2 k (by omega)
        have c5 := s3 k (by omega)
        show Lshuntref01_Divide_0s k (Lshuntref01_Divide_0 k n) _ = _
        unfold Lshuntref01_Divide_0s
        simp only [eitherK]
        simp (config := { implicitDefEqProofs := false, maxSteps := 2000000 }) (disch := omega) only [ps, ↓reduceIte, reduceCtorEq, Int.reduceLT, Int.reduceLE, Int.reduceEq, Nat.reduceLT, Nat.reduceLeDiff, Nat.reduceEqDiff, Int.reduceNeg, eitherK, g2, hx1, hx2, c1, c2, c3, c4, c5, htl, List.take_succ_cons, List.cons_append]
      · obtain ⟨qs', r', y, i1, i2, K, i3⟩ := key _ (by omega) (by simpa using hl) (dq.set j hd) s4 s5 hvv (.inr ⟨m1, m2, rfl⟩)
        refine ⟨qs', r', y, i1, i2, max K (max (max K1 K2) (max K3 (max K4 K5))), fun k n hk hn => ?_⟩
        obtain ⟨n, rfl⟩ : ∃ m, n = m + 1 := ⟨n - 1, by omega⟩
        rw [← i3 k n (by omega) (by omega)]
        have c1 := h1 k (by omega)
        have c2 := h2 k (by omega)
        have c3 := s1 k (by omega)
        have c4 := s2 k (by omega)
        have c5 := s3 k (by omega)
        show Lshuntref01_Divide_0s k (Lshuntref01_Divide_0 k n) _ = _
        unfold Lshuntref01_Divide_0s
        simp only [eitherK]
        simp (config := { implicitDefEqProofs := false, maxSteps := 2000000 }) (disch := omega) only [ps, ↓reduceIte, reduceCtorEq, Int.reduceLT, Int.reduceLE, Int.reduceEq, Nat.reduceLT, Nat.reduceLeDiff, Nat.reduceEqDiff, Int.reduceNeg, eitherK, hx1, hx2, c1, c2, c3, c4, c5, htl, List.take_succ_cons, List.cons_append]
end Go.Proofs.YtjgpegpjmkgkkaaGreat.Am

/- Plain reckoning: numbers lent and looked at again; the reference's calls of two numbers. -/
set_option linter.unusedVariables false
set_option linter.unusedSimpArgs false
set_option maxRecDepth 10000
namespace Go.Proofs.YtjgpegpjmkgkkaaGreat.Am
open Go

/-- The mark behind a number that is lent. -/
abbrev mk (a1 : List Int) : List Int := a1 ++ [11259375]
section
variable {a0 b0 : Bool} {a1 b1 : List Int} (la : a1.length ≤ 9223372036854775807) (lb : b1.length ≤ 9223372036854775807) (da : Dg W a1) (db : Dg W b1)
include la lb da db
end
end Go.Proofs.YtjgpegpjmkgkkaaGreat.Am

/- Plain reckoning: the reference's division and common divisor, whole. -/
set_option linter.unusedVariables false
set_option linter.unusedSimpArgs false
set_option maxRecDepth 10000
namespace Go.Proofs.YtjgpegpjmkgkkaaGreat.Am
open Go

set_option maxHeartbeats 1000000 in
theorem Divide_ev (a0 b0 : Bool) (a1 b1 : List Int) {x y : Int} (nx : Nm U a0 a1 x) (ny : Nm U b0 b1 y) (hla : a1.length ≤ 800000) (hlb : b1.length ≤ 800000) (hb0 : b1 ≠ []) :
    ∃ s q t r, Rn (fun k => Fshuntref01_Divide k a0 a1 b0 b1) (s, q, t, r) ∧ Nm U s q (x.tdiv y) ∧ Nm U t r (x.tmod y) ∧ q.length ≤ a1.length ∧ r.length ≤ b1.length := by
  have hb : 0 < V U b1 := by
    have p := V_nonneg (B := U) (by decide) ny.c.1
    have := mt (ny.c.nil_iff (B := U) (by decide)).2 hb0
    omega
  have pa := V_nonneg (B := U) (by decide) nx.c.1
  obtain ⟨qs, r, z, hz, ⟨lq, dq, cr, hr, hv⟩, K, hl⟩ := div_loop a0 b0 a1 b1 nx.c.1 ny.c hb hla hlb a1.length (List.replicate a1.length 0) [] _ (Nat.le_refl _) (by simp) (Dg.rep _ (by decide)) Cn.nil (by simpa [V] using hb) (by
    rw [List.drop_of_length_le (by simp), List.drop_of_length_le (by simp)]; simp [V]) (.inl ⟨[], [], [], rfl, by simp, rfl⟩)
  have hr0 := V_nonneg (B := U) (by decide) cr.1
  have hu := rdiv_uniq hv hr0 hr
  have cq : Cn U (tl qs) := Cn.of dq
  have e1 := rtdiv_sg a0 b0 (Y := V U b1) pa
  have e2 := rtmod_sg a0 b0 (Y := V U b1) pa
  rw [nx.z, ny.z, ← hu.1] at e1
  rw [nx.z, ny.z, ← hu.2] at e2
  have n1 := nm_sg (a0 := !(a0 == b0)) cq (V_tl qs)
  have n2 := nm_sg (a0 := a0) cr rfl
  have ltq := tl_len qs
  refine ⟨_, _, _, _, ?_, n1.cast e1.symm, n2.cast e2.symm, by omega, ?_⟩
  · refine Rn.up (f := fun k => Fshuntref01_Divide k a0 a1 b0 b1) (Rn.eq (K + a1.length + 4) fun k hk => ?_)
    show bshuntref01_Divide k a0 a1 b0 b1 = _
    unfold bshuntref01_Divide
    have hdec : ∀ l : List Int, decide ((0 : Int) < (l.length : Int)) = decide (0 < l.length) := fun l => by congr 1; simp
    have h1 : Lshuntref01_Divide_0 k k (Sum.inl (a1.length, 0, (a1.length : Int) - 1, a0, a1, b0, b1, false, 0, false, 0, List.replicate a1.length 0, [], [], [])) = some z := hl k k (by omega) (by omega)
    have h2 := rtrim_eq qs (by omega) k (by omega)
    rw [lq] at h2
    have h3 := tl_take qs
    rcases hz with ⟨mem, m1, m2, rfl, g1, g2⟩ | ⟨m1, m2, rfl⟩
    · simp (config := { implicitDefEqProofs := false, maxSteps := 2000000 }) (disch := omega) only [ps, ↓reduceIte, reduceCtorEq, Int.reduceLT, Int.reduceLE, Int.reduceEq, Nat.reduceLT, Nat.reduceLeDiff, Nat.reduceEqDiff, Int.reduceNeg, eitherK, h1]
      simp (config := { implicitDefEqProofs := false, maxSteps := 2000000 }) (disch := omega) only [ps, ↓reduceIte, reduceCtorEq, Int.reduceLT, Int.reduceLE, Int.reduceEq, Nat.reduceLT, Nat.reduceLeDiff, Nat.reduceEqDiff, Int.reduceNeg, eitherK, h2, g1]
      cases a0 <;> cases b0 <;> simp (config := { implicitDefEqProofs := false, maxSteps := 2000000 }) (disch := omega) only [ps, ↓reduceIte, reduceCtorEq, Int.reduceLT, Int.reduceLE, Int.reduceEq, Nat.reduceLT, Nat.reduceLeDiff, Nat.reduceEqDiff, Int.reduceNeg, eitherK, h3, g2, hdec, if_true, if_false]
    · simp (config := { implicitDefEqProofs := false, maxSteps := 2000000 }) (disch := omega) only [ps, ↓reduceIte, reduceCtorEq, Int.reduceLT, Int.reduceLE, Int.reduceEq, Nat.reduceLT, Nat.reduceLeDiff, Nat.reduceEqDiff, Int.reduceNeg, eitherK, h1]
      simp (config := { implicitDefEqProofs := false, maxSteps := 2000000 }) (disch := omega) only [ps, ↓reduceIte, reduceCtorEq, Int.reduceLT, Int.reduceLE, Int.reduceEq, Nat.reduceLT, Nat.reduceLeDiff, Nat.reduceEqDiff, Int.reduceNeg, eitherK, h2]
      cases a0 <;> cases b0 <;> simp (config := { implicitDefEqProofs := false, maxSteps := 2000000 }) (disch := omega) only [ps, ↓reduceIte, reduceCtorEq, Int.reduceLT, Int.reduceLE, Int.reduceEq, Nat.reduceLT, Nat.reduceLeDiff, Nat.reduceEqDiff, Int.reduceNeg, eitherK, h3, hdec, if_true, if_false]
  · refine Nat.le_of_not_lt fun hlt => ?_
    have := Cn.len_lt (B := U) (by decide) ny.c cr hlt
    omega
theorem common_loop (x0 : Bool) (x1 : Nat) (m : List Int) (M : Nat) (hM : M ≤ 800000) : ∀ (N : Nat) (a b : List Int), V U b ≤ N → Cn U a → Cn U b → a.length ≤ M → b.length ≤ M →
    ∃ l b1, (∃ K, ∀ k n, K ≤ k → N < n → Lshuntref01_Common_0 k n false a false b x0 x1 m = some (false, l, false, b1, x0, x1, m)) ∧ Cn U l ∧ V U l = Int.gcd (V U a) (V U b) ∧ l.length ≤ M := by
  intro N
  induction N using Nat.strongRecOn with
  | ind N ih =>
    intro a b hN ca cb ha hb
    have pa := V_nonneg (B := U) (by decide) ca.1
    by_cases h0 : b = []
    · subst h0
      refine ⟨a, [], ⟨0, fun k n _ hn => ?_⟩, ca, by simp [V]; omega, ha⟩
      obtain ⟨n, rfl⟩ : ∃ m, n = m + 1 := ⟨n - 1, by omega⟩
      show Lshuntref01_Common_0s k (Lshuntref01_Common_0 k n) _ _ _ _ _ _ _ = _
      unfold Lshuntref01_Common_0s
      simp (config := { implicitDefEqProofs := false, maxSteps := 2000000 }) (disch := omega) only [ps, ↓reduceIte, reduceCtorEq, Int.reduceLT, Int.reduceLE, Int.reduceEq, Nat.reduceLT, Nat.reduceLeDiff, Nat.reduceEqDiff, Int.reduceNeg, eitherK]
    · have pb : 0 < V U b := by
        have p := V_nonneg (B := U) (by decide) cb.1
        have := mt (cb.nil_iff (B := U) (by decide)).2 h0
        omega
      obtain ⟨s, q, t, r, ⟨K1, h1⟩, h2, h3, h4, h5⟩ := Divide_ev false false a b (nm_pos ca rfl) (nm_pos cb rfl) (by omega) (by omega) h0
      have hr0 := Int.emod_nonneg (V U a) (show V U b ≠ 0 by omega)
      have hr1 := Int.emod_lt_of_pos (V U a) pb
      rw [tmod_pos pa] at h3
      obtain ⟨R, hR⟩ := Int.eq_ofNat_of_zero_le hr0
      have ht : t = false := by rw [h3.neg (by decide)]; simp; omega
      subst ht
      have hvr : V U r = R := by rw [h3.abs (by decide), hR]; rfl
      obtain ⟨l, b1, ⟨K2, i1⟩, i2, i3, i4⟩ := ih R (by omega) b r (by omega) cb h3.c hb (by omega)
      refine ⟨l, b1, ⟨max K1 K2, fun k n hk hn => ?_⟩, i2, ?_, i4⟩
      · obtain ⟨n, rfl⟩ : ∃ m, n = m + 1 := ⟨n - 1, by omega⟩
        rw [← i1 k n (by omega) (by omega)]
        have c1 := h1 k (by omega)
        have lb : 0 < b.length := by
          cases b with
          | nil => exact absurd rfl h0
          | cons _ _ => simp
        show Lshuntref01_Common_0s k (Lshuntref01_Common_0 k n) _ _ _ _ _ _ _ = _
        unfold Lshuntref01_Common_0s
        simp (config := { implicitDefEqProofs := false, maxSteps := 2000000 }) (disch := omega) only [ps, ↓reduceIte, reduceCtorEq, Int.reduceLT, Int.reduceLE, Int.reduceEq, Nat.reduceLT, Nat.reduceLeDiff, Nat.reduceEqDiff, Int.reduceNeg, eitherK, c1]
      · rw [i3, hvr, ← hR]
        obtain ⟨A, hA⟩ := Int.eq_ofNat_of_zero_le pa
        obtain ⟨B, hB⟩ := Int.eq_ofNat_of_zero_le (Int.le_of_lt pb)
        rw [hA, hB]
        show (((Int.gcd (B : Int) ((A % B : Nat) : Int)) : Nat) : Int) = _
        rw [Int.gcd_natCast_natCast, Int.gcd_natCast_natCast, Nat.gcd_comm, ← Nat.gcd_rec, Nat.gcd_comm]
theorem Common_ev (a0 b0 : Bool) (a1 b1 : List Int) {x y : Int} (nx : Nm U a0 a1 x) (ny : Nm U b0 b1 y) (hx : a1.length ≤ 800000) (hy : b1.length ≤ 800000) :
    ∃ l, Rn (fun k => Fshuntref01_Common k a0 a1 b0 b1) (false, l) ∧ Nm U false l (Int.gcd x y) ∧ l.length ≤ max a1.length b1.length := by
  obtain ⟨N, hN⟩ := Int.eq_ofNat_of_zero_le (V_nonneg (B := U) (by decide) ny.c.1)
  obtain ⟨l, b', ⟨K, h1⟩, h2, h3, h4⟩ := common_loop false 0 [] (max a1.length b1.length) (by omega) N a1 b1 (by omega) nx.c ny.c (by omega) (by omega)
  have e : (Int.gcd (V U a1) (V U b1) : Int) = Int.gcd x y := by
    have e1 := nx.z
    have e2 := ny.z
    rw [← e1, ← e2]
    cases a0 <;> cases b0 <;> simp
  refine ⟨l, Rn.up (f := fun k => Fshuntref01_Common k a0 a1 b0 b1) ?_, nm_pos h2 (by rw [h3, e]), h4⟩
  have q1 : Rn (fun k => Fshuntref01_Abs k a0 a1) (false, a1) := Rn.up (f := fun k => Fshuntref01_Abs k a0 a1) (Rn.pure _)
  have q2 : Rn (fun k => Fshuntref01_Abs k b0 b1) (false, b1) := Rn.up (f := fun k => Fshuntref01_Abs k b0 b1) (Rn.pure _)
  refine Rn.bind (f := fun k => Fshuntref01_Abs k a0 a1) q1 (Rn.bind q2 ?_)
  exact Rn.bind (x := (false, l, false, b', false, 0, [])) (Rn.eq (K + N + 1) fun k hk => h1 k k (by omega) (by omega)) (Rn.pure _)
section
variable {a0 b0 : Bool} {a1 b1 : List Int} (la : a1.length ≤ 9223372036854775807) (lb : b1.length ≤ 9223372036854775807) (da : Dg W a1) (db : Dg W b1)
include la lb da db
end
end Go.Proofs.YtjgpegpjmkgkkaaGreat.Am

/- Plain reckoning: right fractions, and the layer's calls of two of them. -/
set_option linter.unusedVariables false
set_option linter.unusedSectionVars false
set_option linter.unusedSimpArgs false
set_option maxRecDepth 10000
namespace Go.Proofs.YtjgpegpjmkgkkaaGreat.Am
open Go

/-- What a fraction is refused for. -/
def faultR (n0 : Bool) (n1 : List Int) (d0 : Bool) (d1 : List Int) : Int :=
  if Ri n0 n1 ∧ Ri d0 d1 then (if d0 = false ∧ d1 ≠ [] ∧ Int.gcd (Zv W n0 n1) (Zv W d0 d1) = 1 then 0 else 20) else 10
theorem faultR_cases (n0 : Bool) (n1 : List Int) (d0 : Bool) (d1 : List Int) : faultR n0 n1 d0 d1 = 0 ∨ faultR n0 n1 d0 d1 = 10 ∨ faultR n0 n1 d0 d1 = 20 := by
  unfold faultR
  split
  · split
    · exact .inl rfl
    · exact .inr (.inr rfl)
  · exact .inr (.inl rfl)
theorem zv_pos {d1 : List Int} {d0 : Bool} (h0 : d0 = false) (hne : d1 ≠ []) (cd : Cn W d1) : 0 < Zv W d0 d1 := by
  subst h0
  have p := V_nonneg (B := W) (by decide) cd.1
  have q := mt (cd.nil_iff (B := W) (by decide)).2 hne
  simp [Zv]; omega
theorem num_of_one {x y : Int} (hy : 0 < y) (hg : Int.gcd x y = 1) : (Rat.divInt x y).num = x ∧ ((Rat.divInt x y).den : Int) = y := by
  refine ⟨?_, ?_⟩
  · rw [num_eq x (by omega), if_neg (by omega), hg]; simp
  · rw [den_eq x (by omega), if_neg (by omega), hg]; simp
theorem fault_fr {n0 d0 : Bool} {n1 d1 : List Int} (dn : Dg W n1) (dd : Dg W d1) (h : faultR n0 n1 d0 d1 = 0) : ∃ q, Fr n0 n1 d0 d1 q ∧ n1.length ≤ 72 ∧ d1.length ≤ 72 := by
  unfold faultR at h
  split at h
  · rename_i hr
    split at h
    · rename_i hc
      obtain ⟨h1, h2, h3⟩ := hc
      have a := hr.1.nm dn
      have b := hr.2.nm dd
      obtain ⟨e1, e2⟩ := num_of_one (zv_pos h1 h2 b.c) h3
      exact ⟨Rat.divInt (Zv W n0 n1) (Zv W d0 d1), ⟨a.cast e1.symm, b.cast e2.symm⟩, hr.1.1, hr.2.1⟩
    · cases h
  · cases h
theorem fr_fault {n0 d0 : Bool} {n1 d1 : List Int} {q : Rat} (h : Fr n0 n1 d0 d1 q) (l1 : n1.length ≤ 72) (l3 : d1.length ≤ 72) : faultR n0 n1 d0 d1 = 0 := by
  unfold faultR
  rw [if_pos ⟨h.1.ri l1, h.2.ri l3⟩, if_pos]
  refine ⟨h.d0, h.ne, ?_⟩
  rw [show Zv W n0 n1 = q.num from h.1.z, show Zv W d0 d1 = q.den from h.2.z]
  have := q.reduced
  show Nat.gcd q.num.natAbs (q.den : Int).natAbs = 1
  rw [Int.natAbs_natCast]
  exact this
theorem one_iff {l : List Int} {g : Nat} (h : Nm W false l g) : l = [1] ↔ g = 1 := by
  have hc : Cn W [1] := ⟨Dg.cons (by decide) Dg.nil, rfl⟩
  have hv := h.abs (by decide)
  constructor
  · rintro rfl
    simp [V] at hv
    omega
  · rintro rfl
    refine Cn.ext (B := W) (by decide) h.c hc ?_
    rw [hv]; simp [V]
section
variable {n0 d0 : Bool} {n1 d1 : List Int} (la : n1.length ≤ 9223372036854775807) (lb : d1.length ≤ 9223372036854775807) (da : Dg W n1) (db : Dg W d1)
include la lb da db
theorem ratCheck_ev : Rn (fun k => Frat_Check k n0 n1 d0 d1) (faultR n0 n1 d0 d1) := by
  refine Rn.up (f := fun k => Frat_Check k n0 n1 d0 d1) ?_
  show Rn (fun k => brat_Check k n0 n1 d0 d1) _
  unfold brat_Check
  refine Rn.bind (check_ev n0 n1 la da) ?_
  by_cases hn : Ri n0 n1
  case neg =>
    have e : faultR n0 n1 d0 d1 = 10 := if_neg (fun c => hn c.1)
    rw [e, if_neg hn]
    (first | (refine Rn.t ?hc ?_; case hc => simp (config := { implicitDefEqProofs := false, maxSteps := 2000000 }) (disch := omega) only [ps, ↓reduceIte, reduceCtorEq, Int.reduceLT, Int.reduceLE, Int.reduceEq, Nat.reduceLT, Nat.reduceLeDiff, Nat.reduceEqDiff, Int.reduceNeg, eitherK]) | (refine Rn.f ?hc ?_; case hc => simp (config := { implicitDefEqProofs := false, maxSteps := 2000000 }) (disch := omega) only [ps, ↓reduceIte, reduceCtorEq, Int.reduceLT, Int.reduceLE, Int.reduceEq, Nat.reduceLT, Nat.reduceLeDiff, Nat.reduceEqDiff, Int.reduceNeg, eitherK]))
    exact Rn.pure _
  rw [if_pos hn]
  (first | (refine Rn.t ?hc ?_; case hc => simp (config := { implicitDefEqProofs := false, maxSteps := 2000000 }) (disch := omega) only [ps, ↓reduceIte, reduceCtorEq, Int.reduceLT, Int.reduceLE, Int.reduceEq, Nat.reduceLT, Nat.reduceLeDiff, Nat.reduceEqDiff, Int.reduceNeg, eitherK]) | (refine Rn.f ?hc ?_; case hc => simp (config := { implicitDefEqProofs := false, maxSteps := 2000000 }) (disch := omega) only [ps, ↓reduceIte, reduceCtorEq, Int.reduceLT, Int.reduceLE, Int.reduceEq, Nat.reduceLT, Nat.reduceLeDiff, Nat.reduceEqDiff, Int.reduceNeg, eitherK]))
  refine Rn.bind (check_ev d0 d1 lb db) ?_
  by_cases hd : Ri d0 d1
  case neg =>
    have e : faultR n0 n1 d0 d1 = 10 := if_neg (fun c => hd c.2)
    rw [e, if_neg hd]
    (first | (refine Rn.t ?hc ?_; case hc => simp (config := { implicitDefEqProofs := false, maxSteps := 2000000 }) (disch := omega) only [ps, ↓reduceIte, reduceCtorEq, Int.reduceLT, Int.reduceLE, Int.reduceEq, Nat.reduceLT, Nat.reduceLeDiff, Nat.reduceEqDiff, Int.reduceNeg, eitherK]) | (refine Rn.f ?hc ?_; case hc => simp (config := { implicitDefEqProofs := false, maxSteps := 2000000 }) (disch := omega) only [ps, ↓reduceIte, reduceCtorEq, Int.reduceLT, Int.reduceLE, Int.reduceEq, Nat.reduceLT, Nat.reduceLeDiff, Nat.reduceEqDiff, Int.reduceNeg, eitherK]))
    exact Rn.pure _
  rw [if_pos hd]
  (first | (refine Rn.t ?hc ?_; case hc => simp (config := { implicitDefEqProofs := false, maxSteps := 2000000 }) (disch := omega) only [ps, ↓reduceIte, reduceCtorEq, Int.reduceLT, Int.reduceLE, Int.reduceEq, Nat.reduceLT, Nat.reduceLeDiff, Nat.reduceEqDiff, Int.reduceNeg, eitherK]) | (refine Rn.f ?hc ?_; case hc => simp (config := { implicitDefEqProofs := false, maxSteps := 2000000 }) (disch := omega) only [ps, ↓reduceIte, reduceCtorEq, Int.reduceLT, Int.reduceLE, Int.reduceEq, Nat.reduceLT, Nat.reduceLeDiff, Nat.reduceEqDiff, Int.reduceNeg, eitherK]))
  have e0 : faultR n0 n1 d0 d1 = if d0 = false ∧ d1 ≠ [] ∧ Int.gcd (Zv W n0 n1) (Zv W d0 d1) = 1 then 0 else 20 := if_pos ⟨hn, hd⟩
  cases d0
  case true =>
    rw [e0.trans (if_neg (fun c => by cases c.1))]
    (first | (refine Rn.t ?hc ?_; case hc => simp (config := { implicitDefEqProofs := false, maxSteps := 2000000 }) (disch := omega) only [ps, ↓reduceIte, reduceCtorEq, Int.reduceLT, Int.reduceLE, Int.reduceEq, Nat.reduceLT, Nat.reduceLeDiff, Nat.reduceEqDiff, Int.reduceNeg, eitherK]) | (refine Rn.f ?hc ?_; case hc => simp (config := { implicitDefEqProofs := false, maxSteps := 2000000 }) (disch := omega) only [ps, ↓reduceIte, reduceCtorEq, Int.reduceLT, Int.reduceLE, Int.reduceEq, Nat.reduceLT, Nat.reduceLeDiff, Nat.reduceEqDiff, Int.reduceNeg, eitherK]))
    exact Rn.pure _
  (first | (refine Rn.t ?hc ?_; case hc => simp (config := { implicitDefEqProofs := false, maxSteps := 2000000 }) (disch := omega) only [ps, ↓reduceIte, reduceCtorEq, Int.reduceLT, Int.reduceLE, Int.reduceEq, Nat.reduceLT, Nat.reduceLeDiff, Nat.reduceEqDiff, Int.reduceNeg, eitherK]) | (refine Rn.f ?hc ?_; case hc => simp (config := { implicitDefEqProofs := false, maxSteps := 2000000 }) (disch := omega) only [ps, ↓reduceIte, reduceCtorEq, Int.reduceLT, Int.reduceLE, Int.reduceEq, Nat.reduceLT, Nat.reduceLeDiff, Nat.reduceEqDiff, Int.reduceNeg, eitherK]))
  by_cases h0 : d1 = []
  · rw [e0.trans (if_neg (fun c => c.2.1 h0))]
    subst h0
    (first | (refine Rn.t ?hc ?_; case hc => simp (config := { implicitDefEqProofs := false, maxSteps := 2000000 }) (disch := omega) only [ps, ↓reduceIte, reduceCtorEq, Int.reduceLT, Int.reduceLE, Int.reduceEq, Nat.reduceLT, Nat.reduceLeDiff, Nat.reduceEqDiff, Int.reduceNeg, eitherK]) | (refine Rn.f ?hc ?_; case hc => simp (config := { implicitDefEqProofs := false, maxSteps := 2000000 }) (disch := omega) only [ps, ↓reduceIte, reduceCtorEq, Int.reduceLT, Int.reduceLE, Int.reduceEq, Nat.reduceLT, Nat.reduceLeDiff, Nat.reduceEqDiff, Int.reduceNeg, eitherK]))
    exact Rn.pure _
  · have l0 : 0 < d1.length := by
      cases d1 with
      | nil => exact absurd rfl h0
      | cons _ _ => simp
    (first | (refine Rn.t ?hc ?_; case hc => simp (config := { implicitDefEqProofs := false, maxSteps := 2000000 }) (disch := omega) only [ps, ↓reduceIte, reduceCtorEq, Int.reduceLT, Int.reduceLE, Int.reduceEq, Nat.reduceLT, Nat.reduceLeDiff, Nat.reduceEqDiff, Int.reduceNeg, eitherK]) | (refine Rn.f ?hc ?_; case hc => simp (config := { implicitDefEqProofs := false, maxSteps := 2000000 }) (disch := omega) only [ps, ↓reduceIte, reduceCtorEq, Int.reduceLT, Int.reduceLE, Int.reduceEq, Nat.reduceLT, Nat.reduceLeDiff, Nat.reduceEqDiff, Int.reduceNeg, eitherK]))
    obtain ⟨l, g1, g2, g3⟩ := limbGcd_ev la lb da db hn hd
    refine Rn.bind g1 ?_
    have ho := one_iff g2
    by_cases hg : Int.gcd (Zv W n0 n1) (Zv W false d1) = 1
    · rw [e0.trans (if_pos ⟨rfl, h0, hg⟩)]
      have hl := ho.2 hg
      subst hl
      (first | (refine Rn.t ?hc ?_; case hc => simp (config := { implicitDefEqProofs := false, maxSteps := 2000000 }) (disch := omega) only [ps, ↓reduceIte, reduceCtorEq, Int.reduceLT, Int.reduceLE, Int.reduceEq, Nat.reduceLT, Nat.reduceLeDiff, Nat.reduceEqDiff, Int.reduceNeg, eitherK, List.length_cons]) | (refine Rn.f ?hc ?_; case hc => simp (config := { implicitDefEqProofs := false, maxSteps := 2000000 }) (disch := omega) only [ps, ↓reduceIte, reduceCtorEq, Int.reduceLT, Int.reduceLE, Int.reduceEq, Nat.reduceLT, Nat.reduceLeDiff, Nat.reduceEqDiff, Int.reduceNeg, eitherK, List.length_cons]))
      refine Rn.at (x := 1) rfl ?_
      (first | (refine Rn.t ?hc ?_; case hc => simp (config := { implicitDefEqProofs := false, maxSteps := 2000000 }) (disch := omega) only [ps, ↓reduceIte, reduceCtorEq, Int.reduceLT, Int.reduceLE, Int.reduceEq, Nat.reduceLT, Nat.reduceLeDiff, Nat.reduceEqDiff, Int.reduceNeg, eitherK]) | (refine Rn.f ?hc ?_; case hc => simp (config := { implicitDefEqProofs := false, maxSteps := 2000000 }) (disch := omega) only [ps, ↓reduceIte, reduceCtorEq, Int.reduceLT, Int.reduceLE, Int.reduceEq, Nat.reduceLT, Nat.reduceLeDiff, Nat.reduceEqDiff, Int.reduceNeg, eitherK]))
      exact Rn.pure _
    · rw [e0.trans (if_neg (fun c => hg c.2.2))]
      by_cases hlen : l.length = 1
      · obtain ⟨x, rfl⟩ : ∃ x, l = [x] := by
          match l, hlen with
          | [x], _ => exact ⟨x, rfl⟩
        (first | (refine Rn.t ?hc ?_; case hc => simp (config := { implicitDefEqProofs := false, maxSteps := 2000000 }) (disch := omega) only [ps, ↓reduceIte, reduceCtorEq, Int.reduceLT, Int.reduceLE, Int.reduceEq, Nat.reduceLT, Nat.reduceLeDiff, Nat.reduceEqDiff, Int.reduceNeg, eitherK, List.length_cons]) | (refine Rn.f ?hc ?_; case hc => simp (config := { implicitDefEqProofs := false, maxSteps := 2000000 }) (disch := omega) only [ps, ↓reduceIte, reduceCtorEq, Int.reduceLT, Int.reduceLE, Int.reduceEq, Nat.reduceLT, Nat.reduceLeDiff, Nat.reduceEqDiff, Int.reduceNeg, eitherK, List.length_cons]))
        refine Rn.at (x := x) rfl ?_
        have hx : x ≠ 1 := fun h => hg (ho.1 (by rw [h]))
        (first | (refine Rn.t ?hc ?_; case hc => simp (config := { implicitDefEqProofs := false, maxSteps := 2000000 }) (disch := omega) only [ps, ↓reduceIte, reduceCtorEq, Int.reduceLT, Int.reduceLE, Int.reduceEq, Nat.reduceLT, Nat.reduceLeDiff, Nat.reduceEqDiff, Int.reduceNeg, eitherK]) | (refine Rn.f ?hc ?_; case hc => simp (config := { implicitDefEqProofs := false, maxSteps := 2000000 }) (disch := omega) only [ps, ↓reduceIte, reduceCtorEq, Int.reduceLT, Int.reduceLE, Int.reduceEq, Nat.reduceLT, Nat.reduceLeDiff, Nat.reduceEqDiff, Int.reduceNeg, eitherK]))
        exact Rn.pure _
      · (first | (refine Rn.t ?hc ?_; case hc => simp (config := { implicitDefEqProofs := false, maxSteps := 2000000 }) (disch := omega) only [ps, ↓reduceIte, reduceCtorEq, Int.reduceLT, Int.reduceLE, Int.reduceEq, Nat.reduceLT, Nat.reduceLeDiff, Nat.reduceEqDiff, Int.reduceNeg, eitherK]) | (refine Rn.f ?hc ?_; case hc => simp (config := { implicitDefEqProofs := false, maxSteps := 2000000 }) (disch := omega) only [ps, ↓reduceIte, reduceCtorEq, Int.reduceLT, Int.reduceLE, Int.reduceEq, Nat.reduceLT, Nat.reduceLeDiff, Nat.reduceEqDiff, Int.reduceNeg, eitherK]))
        exact Rn.pure _
theorem refFault_ev : Rn (fun k => Fshuntref02_Fault k n0 n1 d0 d1) (faultR n0 n1 d0 d1) := by
  refine Rn.up (f := fun k => Fshuntref02_Fault k n0 n1 d0 d1) ?_
  show Rn (fun k => bshuntref02_Fault k n0 n1 d0 d1) _
  unfold bshuntref02_Fault
  refine Rn.bind (right_ev n0 n1 la da) ?_
  by_cases hn : Ri n0 n1
  case neg =>
    have e : faultR n0 n1 d0 d1 = 10 := if_neg (fun c => hn c.1)
    rw [e]
    (first | (refine Rn.t ?hc ?_; case hc => simp (config := { implicitDefEqProofs := false, maxSteps := 2000000 }) (disch := omega) only [ps, ↓reduceIte, reduceCtorEq, Int.reduceLT, Int.reduceLE, Int.reduceEq, Nat.reduceLT, Nat.reduceLeDiff, Nat.reduceEqDiff, Int.reduceNeg, eitherK, hn, decide_false]) | (refine Rn.f ?hc ?_; case hc => simp (config := { implicitDefEqProofs := false, maxSteps := 2000000 }) (disch := omega) only [ps, ↓reduceIte, reduceCtorEq, Int.reduceLT, Int.reduceLE, Int.reduceEq, Nat.reduceLT, Nat.reduceLeDiff, Nat.reduceEqDiff, Int.reduceNeg, eitherK, hn, decide_false]))
    exact Rn.pure _
  (first | (refine Rn.t ?hc ?_; case hc => simp (config := { implicitDefEqProofs := false, maxSteps := 2000000 }) (disch := omega) only [ps, ↓reduceIte, reduceCtorEq, Int.reduceLT, Int.reduceLE, Int.reduceEq, Nat.reduceLT, Nat.reduceLeDiff, Nat.reduceEqDiff, Int.reduceNeg, eitherK, hn, decide_true]) | (refine Rn.f ?hc ?_; case hc => simp (config := { implicitDefEqProofs := false, maxSteps := 2000000 }) (disch := omega) only [ps, ↓reduceIte, reduceCtorEq, Int.reduceLT, Int.reduceLE, Int.reduceEq, Nat.reduceLT, Nat.reduceLeDiff, Nat.reduceEqDiff, Int.reduceNeg, eitherK, hn, decide_true]))
  refine Rn.bind (right_ev d0 d1 lb db) ?_
  by_cases hd : Ri d0 d1
  case neg =>
    have e : faultR n0 n1 d0 d1 = 10 := if_neg (fun c => hd c.2)
    rw [e]
    (first | (refine Rn.t ?hc ?_; case hc => simp (config := { implicitDefEqProofs := false, maxSteps := 2000000 }) (disch := omega) only [ps, ↓reduceIte, reduceCtorEq, Int.reduceLT, Int.reduceLE, Int.reduceEq, Nat.reduceLT, Nat.reduceLeDiff, Nat.reduceEqDiff, Int.reduceNeg, eitherK, hd, decide_false]) | (refine Rn.f ?hc ?_; case hc => simp (config := { implicitDefEqProofs := false, maxSteps := 2000000 }) (disch := omega) only [ps, ↓reduceIte, reduceCtorEq, Int.reduceLT, Int.reduceLE, Int.reduceEq, Nat.reduceLT, Nat.reduceLeDiff, Nat.reduceEqDiff, Int.reduceNeg, eitherK, hd, decide_false]))
    exact Rn.pure _
  (first | (refine Rn.t ?hc ?_; case hc => simp (config := { implicitDefEqProofs := false, maxSteps := 2000000 }) (disch := omega) only [ps, ↓reduceIte, reduceCtorEq, Int.reduceLT, Int.reduceLE, Int.reduceEq, Nat.reduceLT, Nat.reduceLeDiff, Nat.reduceEqDiff, Int.reduceNeg, eitherK, hd, decide_true]) | (refine Rn.f ?hc ?_; case hc => simp (config := { implicitDefEqProofs := false, maxSteps := 2000000 }) (disch := omega) only [ps, ↓reduceIte, reduceCtorEq, Int.reduceLT, Int.reduceLE, Int.reduceEq, Nat.reduceLT, Nat.reduceLeDiff, Nat.reduceEqDiff, Int.reduceNeg, eitherK, hd, decide_true]))
  have e0 : faultR n0 n1 d0 d1 = if d0 = false ∧ d1 ≠ [] ∧ Int.gcd (Zv W n0 n1) (Zv W d0 d1) = 1 then 0 else 20 := if_pos ⟨hn, hd⟩
  cases d0
  case true =>
    rw [e0.trans (if_neg (fun c => by cases c.1))]
    (first | (refine Rn.t ?hc ?_; case hc => simp (config := { implicitDefEqProofs := false, maxSteps := 2000000 }) (disch := omega) only [ps, ↓reduceIte, reduceCtorEq, Int.reduceLT, Int.reduceLE, Int.reduceEq, Nat.reduceLT, Nat.reduceLeDiff, Nat.reduceEqDiff, Int.reduceNeg, eitherK]) | (refine Rn.f ?hc ?_; case hc => simp (config := { implicitDefEqProofs := false, maxSteps := 2000000 }) (disch := omega) only [ps, ↓reduceIte, reduceCtorEq, Int.reduceLT, Int.reduceLE, Int.reduceEq, Nat.reduceLT, Nat.reduceLeDiff, Nat.reduceEqDiff, Int.reduceNeg, eitherK]))
    exact Rn.pure _
  (first | (refine Rn.t ?hc ?_; case hc => simp (config := { implicitDefEqProofs := false, maxSteps := 2000000 }) (disch := omega) only [ps, ↓reduceIte, reduceCtorEq, Int.reduceLT, Int.reduceLE, Int.reduceEq, Nat.reduceLT, Nat.reduceLeDiff, Nat.reduceEqDiff, Int.reduceNeg, eitherK]) | (refine Rn.f ?hc ?_; case hc => simp (config := { implicitDefEqProofs := false, maxSteps := 2000000 }) (disch := omega) only [ps, ↓reduceIte, reduceCtorEq, Int.reduceLT, Int.reduceLE, Int.reduceEq, Nat.reduceLT, Nat.reduceLeDiff, Nat.reduceEqDiff, Int.reduceNeg, eitherK]))
  by_cases h0 : d1 = []
  · rw [e0.trans (if_neg (fun c => c.2.1 h0))]
    subst h0
    (first | (refine Rn.t ?hc ?_; case hc => simp (config := { implicitDefEqProofs := false, maxSteps := 2000000 }) (disch := omega) only [ps, ↓reduceIte, reduceCtorEq, Int.reduceLT, Int.reduceLE, Int.reduceEq, Nat.reduceLT, Nat.reduceLeDiff, Nat.reduceEqDiff, Int.reduceNeg, eitherK]) | (refine Rn.f ?hc ?_; case hc => simp (config := { implicitDefEqProofs := false, maxSteps := 2000000 }) (disch := omega) only [ps, ↓reduceIte, reduceCtorEq, Int.reduceLT, Int.reduceLE, Int.reduceEq, Nat.reduceLT, Nat.reduceLeDiff, Nat.reduceEqDiff, Int.reduceNeg, eitherK]))
    exact Rn.pure _
  · have l0 : 0 < d1.length := by
      cases d1 with
      | nil => exact absurd rfl h0
      | cons _ _ => simp
    have k1 := hn.1
    have k2 := hd.1
    (first | (refine Rn.t ?hc ?_; case hc => simp (config := { implicitDefEqProofs := false, maxSteps := 2000000 }) (disch := omega) only [ps, ↓reduceIte, reduceCtorEq, Int.reduceLT, Int.reduceLE, Int.reduceEq, Nat.reduceLT, Nat.reduceLeDiff, Nat.reduceEqDiff, Int.reduceNeg, eitherK]) | (refine Rn.f ?hc ?_; case hc => simp (config := { implicitDefEqProofs := false, maxSteps := 2000000 }) (disch := omega) only [ps, ↓reduceIte, reduceCtorEq, Int.reduceLT, Int.reduceLE, Int.reduceEq, Nat.reduceLT, Nat.reduceLeDiff, Nat.reduceEqDiff, Int.reduceNeg, eitherK]))
    obtain ⟨l1, p1, p2, p3⟩ := rTake_ev n0 n1 (by omega) (hn.nm da)
    obtain ⟨l2, q1, q2, q3⟩ := rTake_ev false d1 (by omega) (hd.nm db)
    obtain ⟨l, r1, r2, r3⟩ := Common_ev n0 false l1 l2 p2 q2 (by omega) (by omega)
    obtain ⟨o, s1, s2, s3⟩ := Small_ev 1 (by decide)
    have hh := Held_ev false (decide ((1 : Int) < 0)) l o r2 s2 (by omega) (by omega)
    refine Rn.bind p1 (Rn.bind q1 (Rn.bind r1 (Rn.bind s1 (Rn.bind hh ?_))))
    obtain ⟨c, hc, hcc⟩ := cmpZ_cases ((Int.gcd (Zv W n0 n1) (Zv W false d1) : Nat) : Int) 1
    rw [hc]
    by_cases hg : Int.gcd (Zv W n0 n1) (Zv W false d1) = 1
    · rw [e0.trans (if_pos ⟨rfl, h0, hg⟩)]
      (first | (refine Rn.t ?hc ?_; case hc => simp (config := { implicitDefEqProofs := false, maxSteps := 2000000 }) (disch := omega) only [ps, ↓reduceIte, reduceCtorEq, Int.reduceLT, Int.reduceLE, Int.reduceEq, Nat.reduceLT, Nat.reduceLeDiff, Nat.reduceEqDiff, Int.reduceNeg, eitherK]) | (refine Rn.f ?hc ?_; case hc => simp (config := { implicitDefEqProofs := false, maxSteps := 2000000 }) (disch := omega) only [ps, ↓reduceIte, reduceCtorEq, Int.reduceLT, Int.reduceLE, Int.reduceEq, Nat.reduceLT, Nat.reduceLeDiff, Nat.reduceEqDiff, Int.reduceNeg, eitherK]))
      exact Rn.pure _
    · rw [e0.trans (if_neg (fun c => hg c.2.2))]
      (first | (refine Rn.t ?hc ?_; case hc => simp (config := { implicitDefEqProofs := false, maxSteps := 2000000 }) (disch := omega) only [ps, ↓reduceIte, reduceCtorEq, Int.reduceLT, Int.reduceLE, Int.reduceEq, Nat.reduceLT, Nat.reduceLeDiff, Nat.reduceEqDiff, Int.reduceNeg, eitherK]) | (refine Rn.f ?hc ?_; case hc => simp (config := { implicitDefEqProofs := false, maxSteps := 2000000 }) (disch := omega) only [ps, ↓reduceIte, reduceCtorEq, Int.reduceLT, Int.reduceLE, Int.reduceEq, Nat.reduceLT, Nat.reduceLeDiff, Nat.reduceEqDiff, Int.reduceNeg, eitherK]))
      exact Rn.pure _
end
/-- A fraction's words, as a list's element. -/
abbrev RT := (Bool × List Int) × Bool × List Int
def RT.f (r : RT) : Int := faultR r.1.1 r.1.2 r.2.1 r.2.2
def RT.good (r : RT) : Prop := (r.1.2.length ≤ 9223372036854775807 ∧ Dg W r.1.2) ∧ r.2.2.length ≤ 9223372036854775807 ∧ Dg W r.2.2
def faultsR : Int → List RT → Int
  | w, [] => w
  | w, r :: t => if r.f = 10 then 10 else if r.f = 20 then faultsR 20 t else faultsR w t
def outA (o : (Int × Bool × List Int × Bool × List Int) ⊕ Int) : Int := match o with
  | .inl r => r.1
  | .inr r => r
theorem all_loop (l : List RT) (hl : l.length ≤ 1000000000000000000) (hg : ∀ r ∈ l, r.good) : ∀ (d i : Nat) (w : Int), i + d = l.length → ∃ o, (∃ K, ∀ k n, K ≤ k → d < n → Lrat_all_0 k n w l l.length i = some o) ∧ outA o = faultsR w (l.drop i) := by
  intro d
  induction d with
  | zero =>
    intro i w hi
    refine ⟨.inr w, ⟨0, fun k n _ hn => ?_⟩, ?_⟩
    · obtain ⟨n, rfl⟩ : ∃ m, n = m + 1 := ⟨n - 1, by omega⟩
      show Lrat_all_0s k (Lrat_all_0 k n) _ _ _ _ = _
      unfold Lrat_all_0s
      simp (config := { implicitDefEqProofs := false, maxSteps := 2000000 }) (disch := omega) only [ps, ↓reduceIte, reduceCtorEq, Int.reduceLT, Int.reduceLE, Int.reduceEq, Nat.reduceLT, Nat.reduceLeDiff, Nat.reduceEqDiff, Int.reduceNeg, eitherK]
    · rw [List.drop_of_length_le (by omega)]; rfl
  | succ d ih =>
    intro i w hi
    have hil : i < l.length := by omega
    obtain ⟨r, hr⟩ : ∃ r, l[i]? = some r := ⟨l[i], List.getElem?_eq_getElem hil⟩
    have hdrop : l.drop i = r :: l.drop (i + 1) := by
      rw [List.drop_eq_getElem_cons hil]
      rw [List.getElem?_eq_getElem hil] at hr
      cases hr; rfl
    have hgr := hg r (List.mem_of_getElem? hr)
    obtain ⟨K, hc⟩ := ratCheck_ev (n0 := r.1.1) (d0 := r.2.1) hgr.1.1 hgr.2.1 hgr.1.2 hgr.2.2
    have h1 : ((i : Int) + 1) = ((i + 1 : Nat) : Int) := rfl
    rw [hdrop]
    have hcs := faultR_cases r.1.1 r.1.2 r.2.1 r.2.2
    have step : ∀ (o : (Int × Bool × List Int × Bool × List Int) ⊕ Int) (K' : Nat), (∀ k n, K' ≤ k → d < n → Lrat_all_0s k (Lrat_all_0 k n) w l l.length i = some o) → ∃ K, ∀ k n, K ≤ k → d + 1 < n → Lrat_all_0 k n w l l.length i = some o := by
      intro o K' h
      refine ⟨K', fun k n hk hn => ?_⟩
      obtain ⟨n, rfl⟩ : ∃ m, n = m + 1 := ⟨n - 1, by omega⟩
      exact h k n hk (by omega)
    rcases hcs with hf | hf | hf
    · obtain ⟨o, ⟨K2, i1⟩, i2⟩ := ih (i + 1) w (by omega)
      refine ⟨o, step o (max K K2) fun k n hk hn => ?_, by rw [i2]; simp only [faultsR, RT.f, hf]; rfl⟩
      have c := hc k (by omega)
      rw [hf] at c
      rw [← i1 k n (by omega) hn]
      unfold Lrat_all_0s
      simp (config := { implicitDefEqProofs := false, maxSteps := 2000000 }) (disch := omega) only [ps, ↓reduceIte, reduceCtorEq, Int.reduceLT, Int.reduceLE, Int.reduceEq, Nat.reduceLT, Nat.reduceLeDiff, Nat.reduceEqDiff, Int.reduceNeg, eitherK, hr, c, h1]
    · refine ⟨_, step (.inl (10, r.1.1, r.1.2, r.2.1, r.2.2)) K fun k n hk hn => ?_, by simp only [faultsR, RT.f, hf]; rfl⟩
      have c := hc k (by omega)
      rw [hf] at c
      unfold Lrat_all_0s
      simp (config := { implicitDefEqProofs := false, maxSteps := 2000000 }) (disch := omega) only [ps, ↓reduceIte, reduceCtorEq, Int.reduceLT, Int.reduceLE, Int.reduceEq, Nat.reduceLT, Nat.reduceLeDiff, Nat.reduceEqDiff, Int.reduceNeg, eitherK, hr, c]
    · obtain ⟨o, ⟨K2, i1⟩, i2⟩ := ih (i + 1) 20 (by omega)
      refine ⟨o, step o (max K K2) fun k n hk hn => ?_, by rw [i2]; simp only [faultsR, RT.f, hf]; rfl⟩
      have c := hc k (by omega)
      rw [hf] at c
      rw [← i1 k n (by omega) hn]
      unfold Lrat_all_0s
      simp (config := { implicitDefEqProofs := false, maxSteps := 2000000 }) (disch := omega) only [ps, ↓reduceIte, reduceCtorEq, Int.reduceLT, Int.reduceLE, Int.reduceEq, Nat.reduceLT, Nat.reduceLeDiff, Nat.reduceEqDiff, Int.reduceNeg, eitherK, hr, c, h1]
theorem all_ev (l : List RT) (hl : l.length ≤ 1000000000000000000) (hg : ∀ r ∈ l, r.good) : Rn (fun k => Frat_all k l) (faultsR 0 l) := by
  obtain ⟨o, ⟨K, h1⟩, h2⟩ := all_loop l hl hg l.length 0 0 (by omega)
  refine Rn.up (f := fun k => Frat_all k l) (Rn.eq (K + l.length + 1) fun k hk => ?_)
  show brat_all k l = _
  unfold brat_all
  have h1' : Lrat_all_0 k k 0 l l.length (0 : Int) = some o := h1 k k (by omega) (by omega)
  rw [h1', Option.bind_some]
  rw [List.drop_zero] at h2
  rw [← h2]
  cases o <;> rfl
def outF (o : Int ⊕ Int) : Int := match o with
  | .inl r => r
  | .inr r => r
theorem faults_loop (l : List RT) (hl : l.length ≤ 1000000000000000000) (hg : ∀ r ∈ l, r.good) : ∀ (d i : Nat) (w : Int), i + d = l.length → ∃ o, (∃ K, ∀ k n, K ≤ k → d < n → Lshuntref02_Faults_0 k n l w i = some o) ∧ outF o = faultsR w (l.drop i) := by
  intro d
  induction d with
  | zero =>
    intro i w hi
    refine ⟨.inr w, ⟨0, fun k n _ hn => ?_⟩, ?_⟩
    · obtain ⟨n, rfl⟩ : ∃ m, n = m + 1 := ⟨n - 1, by omega⟩
      show Lshuntref02_Faults_0s k (Lshuntref02_Faults_0 k n) _ _ _ = _
      unfold Lshuntref02_Faults_0s
      simp (config := { implicitDefEqProofs := false, maxSteps := 2000000 }) (disch := omega) only [ps, ↓reduceIte, reduceCtorEq, Int.reduceLT, Int.reduceLE, Int.reduceEq, Nat.reduceLT, Nat.reduceLeDiff, Nat.reduceEqDiff, Int.reduceNeg, eitherK]
    · rw [List.drop_of_length_le (by omega)]; rfl
  | succ d ih =>
    intro i w hi
    have hil : i < l.length := by omega
    obtain ⟨r, hr⟩ : ∃ r, l[i]? = some r := ⟨l[i], List.getElem?_eq_getElem hil⟩
    have hdrop : l.drop i = r :: l.drop (i + 1) := by
      rw [List.drop_eq_getElem_cons hil]
      rw [List.getElem?_eq_getElem hil] at hr
      cases hr; rfl
    have hgr := hg r (List.mem_of_getElem? hr)
    obtain ⟨K, hc⟩ := refFault_ev (n0 := r.1.1) (d0 := r.2.1) hgr.1.1 hgr.2.1 hgr.1.2 hgr.2.2
    have h1 : ((i : Int) + 1) = ((i + 1 : Nat) : Int) := rfl
    rw [hdrop]
    have hcs := faultR_cases r.1.1 r.1.2 r.2.1 r.2.2
    have step : ∀ (o : Int ⊕ Int) (K' : Nat), (∀ k n, K' ≤ k → d < n → Lshuntref02_Faults_0s k (Lshuntref02_Faults_0 k n) l w i = some o) → ∃ K, ∀ k n, K ≤ k → d + 1 < n → Lshuntref02_Faults_0 k n l w i = some o := by
      intro o K' h
      refine ⟨K', fun k n hk hn => ?_⟩
      obtain ⟨n, rfl⟩ : ∃ m, n = m + 1 := ⟨n - 1, by omega⟩
      exact h k n hk (by omega)
    rcases hcs with hf | hf | hf
    · obtain ⟨o, ⟨K2, i1⟩, i2⟩ := ih (i + 1) w (by omega)
      refine ⟨o, step o (max K K2) fun k n hk hn => ?_, by rw [i2]; simp only [faultsR, RT.f, hf]; rfl⟩
      have c := hc k (by omega)
      rw [hf] at c
      rw [← i1 k n (by omega) hn]
      unfold Lshuntref02_Faults_0s
      simp (config := { implicitDefEqProofs := false, maxSteps := 2000000 }) (disch := omega) only [ps, ↓reduceIte, reduceCtorEq, Int.reduceLT, Int.reduceLE, Int.reduceEq, Nat.reduceLT, Nat.reduceLeDiff, Nat.reduceEqDiff, Int.reduceNeg, eitherK, hr, c, h1]
    · refine ⟨_, step (.inl 10) K fun k n hk hn => ?_, by simp only [faultsR, RT.f, hf]; rfl⟩
      have c := hc k (by omega)
      rw [hf] at c
      unfold Lshuntref02_Faults_0s
      simp (config := { implicitDefEqProofs := false, maxSteps := 2000000 }) (disch := omega) only [ps, ↓reduceIte, reduceCtorEq, Int.reduceLT, Int.reduceLE, Int.reduceEq, Nat.reduceLT, Nat.reduceLeDiff, Nat.reduceEqDiff, Int.reduceNeg, eitherK, hr, c]
    · obtain ⟨o, ⟨K2, i1⟩, i2⟩ := ih (i + 1) 20 (by omega)
      refine ⟨o, step o (max K K2) fun k n hk hn => ?_, by rw [i2]; simp only [faultsR, RT.f, hf]; rfl⟩
      have c := hc k (by omega)
      rw [hf] at c
      rw [← i1 k n (by omega) hn]
      unfold Lshuntref02_Faults_0s
      simp (config := { implicitDefEqProofs := false, maxSteps := 2000000 }) (disch := omega) only [ps, ↓reduceIte, reduceCtorEq, Int.reduceLT, Int.reduceLE, Int.reduceEq, Nat.reduceLT, Nat.reduceLeDiff, Nat.reduceEqDiff, Int.reduceNeg, eitherK, hr, c, h1]
theorem Faults_ev (l : List RT) (hl : l.length ≤ 1000000000000000000) (hg : ∀ r ∈ l, r.good) : Rn (fun k => Fshuntref02_Faults k l) (faultsR 0 l) := by
  obtain ⟨o, ⟨K, h1⟩, h2⟩ := faults_loop l hl hg l.length 0 0 (by omega)
  refine Rn.up (f := fun k => Fshuntref02_Faults k l) (Rn.eq (K + l.length + 1) fun k hk => ?_)
  show bshuntref02_Faults k l = _
  unfold bshuntref02_Faults
  have h1' : Lshuntref02_Faults_0 k k l 0 (0 : Int) = some o := h1 k k (by omega) (by omega)
  rw [h1', Option.bind_some]
  rw [List.drop_zero] at h2
  rw [← h2]
  cases o <;> rfl
theorem faultsR_zero : ∀ (l : List RT) (w : Int), faultsR w l = 0 ↔ (w = 0 ∨ False) ∧ ∀ r ∈ l, r.f = 0 := by
  intro l
  induction l with
  | nil => intro w; simp [faultsR]
  | cons r t ih =>
    intro w
    simp only [faultsR]
    rcases faultR_cases r.1.1 r.1.2 r.2.1 r.2.2 with h | h | h
    · have h' : r.f = 0 := h
      simp [h', ih]
    · have h' : r.f = 10 := h
      simp [h']
    · have h' : r.f = 20 := h
      simp [h', ih]
theorem wRat_ev {z0 z2 : Bool} {z1 z3 : List Int} {q : Rat} (h : Fr z0 z1 z2 z3 q) (h1 : z1.length ≤ 1000000) (h3 : z3.length ≤ 1000000) : Rn (fun k => Fwide_Rat k z0 z1 z2 z3) (z0, z1, z2, z3) := by
  have hd := Rat.den_pos' q
  obtain ⟨s, p, t, r, e1, e2, e3, e4⟩ := Frac_ev z0 z2 z1 z3 h.1 h.2 h1 h3 (by omega)
  rw [Rat.num_divInt_den] at e2
  obtain ⟨rfl, rfl, rfl, rfl⟩ := e2.ext h
  have t1 := Take_nm h.1 (show p.length ≤ 1000000000 by omega)
  have t3 := Take_nm h.2 (show r.length ≤ 1000000000 by omega)
  exact Rn.up (f := fun k => Fwide_Rat k s p t r) (Rn.bind t1 (Rn.bind t3 (Rn.bind e1 (Rn.pure _))))
section
variable {x0 x2 y0 y2 : Bool} {x1 x3 y1 y3 : List Int} {x y : Rat} (hx : Fr x0 x1 x2 x3 x) (hy : Fr y0 y1 y2 y3 y) (l1 : x1.length ≤ 72) (l3 : x3.length ≤ 72) (m1 : y1.length ≤ 72) (m3 : y3.length ≤ 72)
include hx hy l1 l3 m1 m3
theorem all2_ok : Rn (fun k => Frat_all k (List.take 2 [((x0, x1), (x2, x3)), ((y0, y1), (y2, y3))])) 0 := by
  have e : faultsR 0 [((x0, x1), (x2, x3)), ((y0, y1), (y2, y3))] = 0 := by
    rw [faultsR_zero]
    refine ⟨.inl rfl, fun r hr => ?_⟩
    simp only [List.mem_cons, List.not_mem_nil, or_false] at hr
    rcases hr with rfl | rfl
    · exact fr_fault hx l1 l3
    · exact fr_fault hy m1 m3
  have := all_ev [((x0, x1), (x2, x3)), ((y0, y1), (y2, y3))] (by simp) (fun r hr => by
    simp only [List.mem_cons, List.not_mem_nil, or_false] at hr
    rcases hr with rfl | rfl
    · exact ⟨⟨show x1.length ≤ _ by omega, hx.1.c.1⟩, show x3.length ≤ _ by omega, hx.2.c.1⟩
    · exact ⟨⟨show y1.length ≤ _ by omega, hy.1.c.1⟩, show y3.length ≤ _ by omega, hy.2.c.1⟩)
  rw [e] at this
  exact this
theorem ratCmp_ev : Rn (fun k => Frat_Cmp k x0 x1 x2 x3 y0 y1 y2 y3) (cmpR x y, 0) := by
  refine Rn.up (f := fun k => Frat_Cmp k x0 x1 x2 x3 y0 y1 y2 y3) ?_
  show Rn (fun k => brat_Cmp k x0 x1 x2 x3 y0 y1 y2 y3) _
  unfold brat_Cmp
  refine Rn.bind (all2_ok hx hy l1 l3 m1 m3) ?_
  (first | (refine Rn.t ?hc ?_; case hc => simp (config := { implicitDefEqProofs := false, maxSteps := 2000000 }) (disch := omega) only [ps, ↓reduceIte, reduceCtorEq, Int.reduceLT, Int.reduceLE, Int.reduceEq, Nat.reduceLT, Nat.reduceLeDiff, Nat.reduceEqDiff, Int.reduceNeg, eitherK]) | (refine Rn.f ?hc ?_; case hc => simp (config := { implicitDefEqProofs := false, maxSteps := 2000000 }) (disch := omega) only [ps, ↓reduceIte, reduceCtorEq, Int.reduceLT, Int.reduceLE, Int.reduceEq, Nat.reduceLT, Nat.reduceLeDiff, Nat.reduceEqDiff, Int.reduceNeg, eitherK]))
  have wx := wRat_ev hx (by omega) (by omega)
  have wy := wRat_ev hy (by omega) (by omega)
  have wc := rCmp_ev hx hy (by omega) (by omega) (by omega) (by omega)
  exact Rn.bind wx (Rn.bind wy (Rn.bind wc (Rn.pure _)))
end
end Go.Proofs.YtjgpegpjmkgkkaaGreat.Am

/- Plain reckoning: fractions made, held against one another, and of small numbers. -/
set_option linter.unusedVariables false
set_option linter.unusedSectionVars false
set_option linter.unusedSimpArgs false
set_option maxRecDepth 10000
namespace Go.Proofs.YtjgpegpjmkgkkaaGreat.Am
open Go

theorem same2_ev (a0 a2 b0 b2 : Bool) (a1 a3 b1 b3 : List Int) (h1 : a1.length ≤ 9223372036854775806) (h3 : a3.length ≤ 9223372036854775806) :
    Rn (fun k => Fshuntlaw02_same k a0 a1 a2 a3 b0 b1 b2 b3) (decide (a0 = b0 ∧ a1 = b1 ∧ a2 = b2 ∧ a3 = b3)) := by
  have hs : Rn (fun k => Fshuntref02_Same k a0 a1 a2 a3 b0 b1 b2 b3) (decide (a0 = b0 ∧ a1 = b1 ∧ a2 = b2 ∧ a3 = b3)) := by
    refine Rn.up (f := fun k => Fshuntref02_Same k a0 a1 a2 a3 b0 b1 b2 b3) ?_
    show Rn (fun k => bshuntref02_Same k a0 a1 a2 a3 b0 b1 b2 b3) _
    unfold bshuntref02_Same
    refine Rn.bind (refSame_ev a0 b0 a1 b1 h1) ?_
    by_cases h : a0 = b0 ∧ a1 = b1
    · refine Rn.t (decide_eq_true h) ?_
      refine Rn.bind (refSame_ev a2 b2 a3 b3 h3) ?_
      have e : decide (a0 = b0 ∧ a1 = b1 ∧ a2 = b2 ∧ a3 = b3) = decide (a2 = b2 ∧ a3 = b3) := by simp [h.1, h.2]
      rw [e]
      exact Rn.pure _
    · refine Rn.f (by simpa using h) ?_
      have e : decide (a0 = b0 ∧ a1 = b1 ∧ a2 = b2 ∧ a3 = b3) = false := by
        rw [decide_eq_false_iff_not]
        rintro ⟨c1, c2, _⟩
        exact h ⟨c1, c2⟩
      rw [e]
      exact Rn.pure _
  exact Rn.up (f := fun k => Fshuntlaw02_same k a0 a1 a2 a3 b0 b1 b2 b3) (Rn.bind hs (Rn.pure _))
theorem same2_t (a0 a2 : Bool) (a1 a3 : List Int) (h1 : a1.length ≤ 9223372036854775806) (h3 : a3.length ≤ 9223372036854775806) :
    Rn (fun k => Fshuntlaw02_same k a0 a1 a2 a3 a0 a1 a2 a3) true := by
  have := same2_ev a0 a2 a0 a2 a1 a3 a1 a3 h1 h3
  simpa using this
/-- The words of a law's fraction, opened. -/
theorem rt_good {x : RT} (w : Wfd (.pr (.pr .bool (.sl (.int .u32))) (.pr .bool (.sl (.int .u32)))) x) : x.good := by
  obtain ⟨d1, l1⟩ := dg_of w.1.2
  obtain ⟨d3, l3⟩ := dg_of w.2.2
  exact ⟨⟨l1, d1⟩, l3, d3⟩
end Go.Proofs.YtjgpegpjmkgkkaaGreat.Am

/- Plain reckoning: a number's text. -/
set_option linter.unusedVariables false
set_option linter.unusedSimpArgs false
set_option maxRecDepth 10000
namespace Go.Proofs.YtjgpegpjmkgkkaaGreat.Am
open Go

/-- A number's text: the digits of its magnitude, the sign ahead. -/
structure Tx (z : Int) (s : ByteArray) : Prop where
  nz : z = 0 → s = bytesOf [48]
  ex : z ≠ 0 → ∃ l, Cn 10 l ∧ V 10 l = z.natAbs ∧ s = bytesOf ((if z < 0 then [45] else []) ++ (sg l).reverse)
theorem Tx.ext {z : Int} {s t : ByteArray} (h1 : Tx z s) (h2 : Tx z t) : s = t := by
  by_cases h : z = 0
  · rw [h1.nz h, h2.nz h]
  · obtain ⟨l, a1, a2, a3⟩ := h1.ex h
    obtain ⟨m, b1, b2, b3⟩ := h2.ex h
    rw [a3, b3, Cn.ext (by decide) a1 b1 (by rw [a2, b2])]
end Go.Proofs.YtjgpegpjmkgkkaaGreat.Am

/- Plain reckoning: the least common multiple of denominators. -/
set_option linter.unusedVariables false
set_option linter.unusedSectionVars false
set_option linter.unusedSimpArgs false
set_option maxRecDepth 10000
namespace Go.Proofs.YtjgpegpjmkgkkaaGreat.Am
open Go

/-- A denominator, as a number. -/
def RT.d (r : RT) : Nat := (Zv W r.2.1 r.2.2).toNat
theorem RT.pos {r : RT} (hg : r.good) (h : r.f = 0) : 0 < r.d ∧ r.2.2.length ≤ 72 ∧ Nm W r.2.1 r.2.2 (r.d : Int) := by
  obtain ⟨q, h1, h2, h3⟩ := fault_fr hg.1.2 hg.2.2 h
  have e : Zv W r.2.1 r.2.2 = q.den := h1.2.z
  have p := Rat.den_pos' q
  have ed : r.d = q.den := by unfold RT.d; rw [e]; rfl
  rw [ed]
  exact ⟨by omega, h3, h1.2⟩
end Go.Proofs.YtjgpegpjmkgkkaaGreat.Am

/- Plain reckoning: the reference's least common multiple. -/
set_option linter.unusedVariables false
set_option linter.unusedSectionVars false
set_option linter.unusedSimpArgs false
set_option maxRecDepth 10000
namespace Go.Proofs.YtjgpegpjmkgkkaaGreat.Am
open Go

theorem Length_ev (a0 : Bool) (a1 : List Int) (hl : a1.length ≤ 1000000000) : Rn (fun k => Fshuntref01_Length k a0 a1) (((a1.length + 1) / 2 : Nat) : Int) := by
  refine Rn.up (f := fun k => Fshuntref01_Length k a0 a1) ?_
  show Rn (fun k => bshuntref01_Length k a0 a1) _
  unfold bshuntref01_Length
  have e : IntKind.wrap .i64 (Int.tdiv (IntKind.wrap .i64 ((a1.length : Int) + 1)) 2) = (((a1.length + 1) / 2 : Nat) : Int) := by
    rw [wrap_i64 (x := (a1.length : Int) + 1) (by omega), tdiv_pos (by omega), wrap_i64 (by omega)]
    omega
  exact Rn.const (by show some (IntKind.wrap .i64 (Int.tdiv (IntKind.wrap .i64 ((a1.length : Int) + 1)) 2)) = _; rw [e])
end Go.Proofs.YtjgpegpjmkgkkaaGreat.Am

/- Plain reckoning: the reference's fractions. -/
set_option linter.unusedVariables false
set_option linter.unusedSectionVars false
set_option linter.unusedSimpArgs false
set_option maxRecDepth 10000
namespace Go.Proofs.YtjgpegpjmkgkkaaGreat.Am
open Go

def FrU (n0 : Bool) (n1 : List Int) (d0 : Bool) (d1 : List Int) (q : Rat) : Prop := Nm U n0 n1 q.num ∧ Nm U d0 d1 (q.den : Int)
theorem FrU.cast {n0 : Bool} {n1 : List Int} {d0 : Bool} {d1 : List Int} {q q' : Rat} (h : FrU n0 n1 d0 d1 q) (e : q = q') : FrU n0 n1 d0 d1 q' := e ▸ h
theorem nmU_ne {a0 : Bool} {a1 : List Int} {x : Int} (h : Nm U a0 a1 x) (h0 : x ≠ 0) : a1 ≠ [] := by
  intro e
  rw [e] at h
  have := h.z
  cases a0 <;> simp [V] at this <;> omega
theorem rLowest_ev (n0 d0 : Bool) (n1 d1 : List Int) {x y : Int} (nx : Nm U n0 n1 x) (ny : Nm U d0 d1 y) (hx : n1.length ≤ 100000) (hy : d1.length ≤ 100000) (hy0 : y ≠ 0) :
    ∃ s p t r, Rn (fun k => Fshuntref02_Lowest k n0 n1 d0 d1) (s, p, t, r) ∧ FrU s p t r (Rat.divInt x y) ∧ p.length ≤ n1.length ∧ r.length ≤ d1.length := by
  have ex := num_eq x hy0
  have ey := den_eq x hy0
  have hgp : (Int.gcd x y : Int) ≠ 0 := by
    have := Int.gcd_pos_of_ne_zero_right x hy0
    omega
  have hs := Sign_ev d0 d1 ny
  obtain ⟨c, hc, hcc⟩ := cmpZ_cases y 0
  rw [hc] at hs
  by_cases hneg : y < 0
  · rw [if_pos hneg, Int.tdiv_neg, ← Int.neg_tdiv] at ex ey
    obtain ⟨s1, l1, a1, a2, a3⟩ := Minus_ev n0 n1 nx
    obtain ⟨s2, l2, b1, b2, b3⟩ := Minus_ev d0 d1 ny
    obtain ⟨g, g1, g2, g3⟩ := Common_ev s1 s2 l1 l2 a2 b2 (by omega) (by omega)
    have eg : (Int.gcd (-x) (-y) : Int) = Int.gcd x y := by rw [Int.gcd_neg, Int.neg_gcd]
    rw [eg] at g2
    have hgn := nmU_ne g2 hgp
    obtain ⟨s3, q3, t3, r3, c1, c2, c3, c4, c5⟩ := Divide_ev s1 false l1 g a2 g2 (by omega) (by omega) hgn
    obtain ⟨s4, q4, t4, r4, d1', d2, d3, d4, d5⟩ := Divide_ev s2 false l2 g b2 g2 (by omega) (by omega) hgn
    rw [← ex] at c2
    rw [← ey] at d2
    refine ⟨s3, q3, s4, q4, Rn.up (f := fun k => Fshuntref02_Lowest k n0 n1 d0 d1) ?_, ⟨c2, d2⟩, by omega, by omega⟩
    show Rn (fun k => bshuntref02_Lowest k n0 n1 d0 d1) _
    unfold bshuntref02_Lowest
    refine Rn.bind hs ?_
    (first | (refine Rn.t ?hc ?_; case hc => simp (config := { implicitDefEqProofs := false, maxSteps := 2000000 }) (disch := omega) only [ps, ↓reduceIte, reduceCtorEq, Int.reduceLT, Int.reduceLE, Int.reduceEq, Nat.reduceLT, Nat.reduceLeDiff, Nat.reduceEqDiff, Int.reduceNeg, eitherK]) | (refine Rn.f ?hc ?_; case hc => simp (config := { implicitDefEqProofs := false, maxSteps := 2000000 }) (disch := omega) only [ps, ↓reduceIte, reduceCtorEq, Int.reduceLT, Int.reduceLE, Int.reduceEq, Nat.reduceLT, Nat.reduceLeDiff, Nat.reduceEqDiff, Int.reduceNeg, eitherK]))
    exact Rn.bind a1 (Rn.bind b1 (Rn.bind g1 (Rn.bind c1 (Rn.bind d1' (Rn.pure _)))))
  · rw [if_neg hneg] at ex ey
    obtain ⟨g, g1, g2, g3⟩ := Common_ev n0 d0 n1 d1 nx ny (by omega) (by omega)
    have hgn := nmU_ne g2 hgp
    obtain ⟨s3, q3, t3, r3, c1, c2, c3, c4, c5⟩ := Divide_ev n0 false n1 g nx g2 (by omega) (by omega) hgn
    obtain ⟨s4, q4, t4, r4, d1', d2, d3, d4, d5⟩ := Divide_ev d0 false d1 g ny g2 (by omega) (by omega) hgn
    rw [← ex] at c2
    rw [← ey] at d2
    refine ⟨s3, q3, s4, q4, Rn.up (f := fun k => Fshuntref02_Lowest k n0 n1 d0 d1) ?_, ⟨c2, d2⟩, by omega, by omega⟩
    show Rn (fun k => bshuntref02_Lowest k n0 n1 d0 d1) _
    unfold bshuntref02_Lowest
    refine Rn.bind hs ?_
    (first | (refine Rn.t ?hc ?_; case hc => simp (config := { implicitDefEqProofs := false, maxSteps := 2000000 }) (disch := omega) only [ps, ↓reduceIte, reduceCtorEq, Int.reduceLT, Int.reduceLE, Int.reduceEq, Nat.reduceLT, Nat.reduceLeDiff, Nat.reduceEqDiff, Int.reduceNeg, eitherK]) | (refine Rn.f ?hc ?_; case hc => simp (config := { implicitDefEqProofs := false, maxSteps := 2000000 }) (disch := omega) only [ps, ↓reduceIte, reduceCtorEq, Int.reduceLT, Int.reduceLE, Int.reduceEq, Nat.reduceLT, Nat.reduceLeDiff, Nat.reduceEqDiff, Int.reduceNeg, eitherK]))
    exact Rn.bind g1 (Rn.bind c1 (Rn.bind d1' (Rn.pure _)))
theorem told2_ev {a0 a2 : Bool} {a1 a3 : List Int} {q : Rat} (h : FrU a0 a1 a2 a3 q) (h1 : a1.length ≤ 100000) (h3 : a3.length ≤ 100000) :
    ∃ p r, Fr a0 p a2 r q ∧ Rn (fun k => Fshuntref02_told k a0 a1 a2 a3) (ansR a0 p a2 r) := by
  obtain ⟨p, p1, p2, p3⟩ := rGive_ev a0 a1 (by omega) h.1
  obtain ⟨r, r1, r2, r3⟩ := rGive_ev a2 a3 (by omega) h.2
  refine ⟨p, r, ⟨p2, r2⟩, Rn.up (f := fun k => Fshuntref02_told k a0 a1 a2 a3) ?_⟩
  show Rn (fun k => bshuntref02_told k a0 a1 a2 a3) _
  unfold bshuntref02_told
  have l1 := Length_ev a0 a1 (by omega)
  have l3 := Length_ev a2 a3 (by omega)
  rw [← p3] at l1
  rw [← r3] at l3
  refine Rn.bind l1 ?_
  by_cases c1 : p.length ≤ 72
  · (first | (refine Rn.t ?hc ?_; case hc => simp (config := { implicitDefEqProofs := false, maxSteps := 2000000 }) (disch := omega) only [ps, ↓reduceIte, reduceCtorEq, Int.reduceLT, Int.reduceLE, Int.reduceEq, Nat.reduceLT, Nat.reduceLeDiff, Nat.reduceEqDiff, Int.reduceNeg, eitherK]) | (refine Rn.f ?hc ?_; case hc => simp (config := { implicitDefEqProofs := false, maxSteps := 2000000 }) (disch := omega) only [ps, ↓reduceIte, reduceCtorEq, Int.reduceLT, Int.reduceLE, Int.reduceEq, Nat.reduceLT, Nat.reduceLeDiff, Nat.reduceEqDiff, Int.reduceNeg, eitherK]))
    refine Rn.bind l3 ?_
    by_cases c3 : r.length ≤ 72
    · have e : ansR a0 p a2 r = (a0, p, a2, r, 0) := if_pos ⟨c1, c3⟩
      rw [e]
      (first | (refine Rn.t ?hc ?_; case hc => simp (config := { implicitDefEqProofs := false, maxSteps := 2000000 }) (disch := omega) only [ps, ↓reduceIte, reduceCtorEq, Int.reduceLT, Int.reduceLE, Int.reduceEq, Nat.reduceLT, Nat.reduceLeDiff, Nat.reduceEqDiff, Int.reduceNeg, eitherK]) | (refine Rn.f ?hc ?_; case hc => simp (config := { implicitDefEqProofs := false, maxSteps := 2000000 }) (disch := omega) only [ps, ↓reduceIte, reduceCtorEq, Int.reduceLT, Int.reduceLE, Int.reduceEq, Nat.reduceLT, Nat.reduceLeDiff, Nat.reduceEqDiff, Int.reduceNeg, eitherK]))
      have hg : Rn (fun k => Fshuntref02_Give k a0 a1 a2 a3) (a0, p, a2, r) := Rn.up (f := fun k => Fshuntref02_Give k a0 a1 a2 a3) (Rn.bind p1 (Rn.bind r1 (Rn.pure _)))
      exact Rn.bind hg (Rn.pure _)
    · have e : ansR a0 p a2 r = (false, [], false, [], 13) := if_neg (fun c => c3 c.2)
      rw [e]
      (first | (refine Rn.t ?hc ?_; case hc => simp (config := { implicitDefEqProofs := false, maxSteps := 2000000 }) (disch := omega) only [ps, ↓reduceIte, reduceCtorEq, Int.reduceLT, Int.reduceLE, Int.reduceEq, Nat.reduceLT, Nat.reduceLeDiff, Nat.reduceEqDiff, Int.reduceNeg, eitherK]) | (refine Rn.f ?hc ?_; case hc => simp (config := { implicitDefEqProofs := false, maxSteps := 2000000 }) (disch := omega) only [ps, ↓reduceIte, reduceCtorEq, Int.reduceLT, Int.reduceLE, Int.reduceEq, Nat.reduceLT, Nat.reduceLeDiff, Nat.reduceEqDiff, Int.reduceNeg, eitherK]))
      exact Rn.pure _
  · have e : ansR a0 p a2 r = (false, [], false, [], 13) := if_neg (fun c => c1 c.1)
    rw [e]
    (first | (refine Rn.t ?hc ?_; case hc => simp (config := { implicitDefEqProofs := false, maxSteps := 2000000 }) (disch := omega) only [ps, ↓reduceIte, reduceCtorEq, Int.reduceLT, Int.reduceLE, Int.reduceEq, Nat.reduceLT, Nat.reduceLeDiff, Nat.reduceEqDiff, Int.reduceNeg, eitherK]) | (refine Rn.f ?hc ?_; case hc => simp (config := { implicitDefEqProofs := false, maxSteps := 2000000 }) (disch := omega) only [ps, ↓reduceIte, reduceCtorEq, Int.reduceLT, Int.reduceLE, Int.reduceEq, Nat.reduceLT, Nat.reduceLeDiff, Nat.reduceEqDiff, Int.reduceNeg, eitherK]))
    exact Rn.pure _
theorem take2_ev {n0 d0 : Bool} {n1 d1 : List Int} {q : Rat} (h : Fr n0 n1 d0 d1 q) (h1 : n1.length ≤ 100000) (h3 : d1.length ≤ 100000) :
    ∃ p r, Rn (fun k => Fshuntref02_Take k n0 n1 d0 d1) (n0, p, d0, r) ∧ FrU n0 p d0 r q ∧ p.length ≤ 2 * n1.length ∧ r.length ≤ 2 * d1.length := by
  obtain ⟨p, p1, p2, p3⟩ := rTake_ev n0 n1 (by omega) h.1
  obtain ⟨r, r1, r2, r3⟩ := rTake_ev d0 d1 (by omega) h.2
  exact ⟨p, r, Rn.up (f := fun k => Fshuntref02_Take k n0 n1 d0 d1) (Rn.bind p1 (Rn.bind r1 (Rn.pure _))), ⟨p2, r2⟩, p3, r3⟩
section
variable {n0 d0 : Bool} {n1 d1 : List Int} (la : n1.length ≤ 9223372036854775807) (lb : d1.length ≤ 9223372036854775807) (da : Dg W n1) (db : Dg W d1)
include la lb da db
end
end Go.Proofs.YtjgpegpjmkgkkaaGreat.Am

/- Plain reckoning: the layer's calls of two fractions, with answers in new memory, and the document's. -/
set_option linter.unusedVariables false
set_option linter.unusedSectionVars false
set_option linter.unusedSimpArgs false
set_option maxRecDepth 10000
namespace Go.Proofs.YtjgpegpjmkgkkaaGreat.Am
open Go
def ansZ (s : Bool) (p : List Int) (t : Bool) (r : List Int) : Bool × Nat × Bool × Nat × Int × List Int × List Int := if p.length ≤ 72 ∧ r.length ≤ 72 then (s, p.length, t, r.length, 0, p, r) else (false, 0, false, 0, 13, [], [])
section
variable {z0 z2 : Bool} {z1 z3 : List Int} {q : Rat} (h : Fr z0 z1 z2 z3 q) (h1 : z1.length ≤ 1000000) (h3 : z3.length ≤ 1000000)
include h h1 h3
theorem wFracZ_ev : Rn (fun k => Fwide_Frac_plq k z0 z1 z2 z3) (z0, z1.length, z2, z3.length, z0, z1, z2, z3, z1, z3) := by
  refine Rn.up (f := fun k => Fwide_Frac_plq k z0 z1 z2 z3) ?_
  exact Rn.bind (Num_ev h h1 h3) (Rn.bind (Give1_ev h.1 (show z1.length ≤ 1000000000 by omega)) (Rn.bind (Denom_ev h h1 h3) (Rn.bind (Give1_ev h.2 (show z3.length ≤ 1000000000 by omega)) (Rn.pure _))))
theorem rAnswerZ_ev : Rn (fun k => Frat_answer_plq k z0 z1 z2 z3) ((ansZ z0 z1 z2 z3).1, (ansZ z0 z1 z2 z3).2.1, (ansZ z0 z1 z2 z3).2.2.1, (ansZ z0 z1 z2 z3).2.2.2.1, (ansZ z0 z1 z2 z3).2.2.2.2.1, z0, z1, z2, z3, (ansZ z0 z1 z2 z3).2.2.2.2.2.1, (ansZ z0 z1 z2 z3).2.2.2.2.2.2) := by
  refine Rn.up (f := fun k => Frat_answer_plq k z0 z1 z2 z3) ?_
  refine Rn.bind (wFracZ_ev h h1 h3) ?_
  by_cases c1 : z1.length ≤ 72
  · by_cases c3 : z3.length ≤ 72
    · have e : ansZ z0 z1 z2 z3 = (z0, z1.length, z2, z3.length, 0, z1, z3) := if_pos ⟨c1, c3⟩
      rw [e]
      exact Rn.t (by simp; omega) (Rn.f (by simp; omega) (Rn.pure _))
    · have e : ansZ z0 z1 z2 z3 = (false, 0, false, 0, 13, [], []) := if_neg (fun c => c3 c.2)
      rw [e]
      exact Rn.t (by simp; omega) (Rn.t (by simp; omega) (Rn.pure _))
  · have e : ansZ z0 z1 z2 z3 = (false, 0, false, 0, 13, [], []) := if_neg (fun c => c1 c.1)
    rw [e]
    exact Rn.f (by simp; omega) (Rn.pure _)
end
theorem frz_ans (s t : Bool) (p r : List Int) : (0 + (ansZ s p t r).2.1 ≤ (ansZ s p t r).2.2.2.2.2.1.length ∧ 0 + (ansZ s p t r).2.2.2.1 ≤ (ansZ s p t r).2.2.2.2.2.2.length) ∧
    ((ansZ s p t r).1, List.take (ansZ s p t r).2.1 (ansZ s p t r).2.2.2.2.2.1, (ansZ s p t r).2.2.1, List.take (ansZ s p t r).2.2.2.1 (ansZ s p t r).2.2.2.2.2.2, (ansZ s p t r).2.2.2.2.1) = ansR s p t r := by
  unfold ansZ ansR
  split
  · simp
  · simp
section
variable {x0 x2 y0 y2 : Bool} {x1 x3 y1 y3 : List Int} {x y : Rat} (hx : Fr x0 x1 x2 x3 x) (hy : Fr y0 y1 y2 y3 y) (l1 : x1.length ≤ 72) (l3 : x3.length ≤ 72) (m1 : y1.length ≤ 72) (m3 : y3.length ≤ 72)
include hx hy l1 l3 m1 m3
theorem zAdd_ev : ∃ s p t r, Fr s p t r (x + y) ∧ Rn (fun k => Frat_two_xgr k x0 x1 x2 x3 y0 y1 y2 y3) (ansZ s p t r) := by
  obtain ⟨s, p, t, r, e1, e2, e3, e4⟩ := rAdd_ev hx hy (by omega) (by omega) (by omega) (by omega) false false
  refine ⟨s, p, t, r, e2, ?_⟩
  refine Rn.up (f := fun k => Frat_two_xgr k x0 x1 x2 x3 y0 y1 y2 y3) ?_
  refine Rn.bind (all2_ok hx hy l1 l3 m1 m3) (Rn.f (by simp) ?_)
  have wx := wRat_ev hx (by omega) (by omega)
  have wy := wRat_ev hy (by omega) (by omega)
  have wa := rAnswerZ_ev e2 (by omega) (by omega)
  exact Rn.bind wx (Rn.bind wy (Rn.bind e1 (Rn.bind wa (Rn.pure _))))
theorem zSub_ev : ∃ s p t r, Fr s p t r (x - y) ∧ Rn (fun k => Frat_two_jru k x0 x1 x2 x3 y0 y1 y2 y3) (ansZ s p t r) := by
  obtain ⟨s, p, t, r, e1, e2, e3, e4⟩ := rSub_ev false false hx hy (by omega) (by omega) (by omega) (by omega)
  refine ⟨s, p, t, r, e2, ?_⟩
  refine Rn.up (f := fun k => Frat_two_jru k x0 x1 x2 x3 y0 y1 y2 y3) ?_
  refine Rn.bind (all2_ok hx hy l1 l3 m1 m3) (Rn.f (by simp) ?_)
  have wx := wRat_ev hx (by omega) (by omega)
  have wy := wRat_ev hy (by omega) (by omega)
  have wa := rAnswerZ_ev e2 (by omega) (by omega)
  exact Rn.bind wx (Rn.bind wy (Rn.bind e1 (Rn.bind wa (Rn.pure _))))
theorem zMul_ev : ∃ s p t r, Fr s p t r (x * y) ∧ Rn (fun k => Frat_two_ikf k x0 x1 x2 x3 y0 y1 y2 y3) (ansZ s p t r) := by
  obtain ⟨s, p, t, r, e1, e2, e3, e4⟩ := rMul_ev hx hy (by omega) (by omega) (by omega) (by omega) false false
  refine ⟨s, p, t, r, e2, ?_⟩
  refine Rn.up (f := fun k => Frat_two_ikf k x0 x1 x2 x3 y0 y1 y2 y3) ?_
  refine Rn.bind (all2_ok hx hy l1 l3 m1 m3) (Rn.f (by simp) ?_)
  have wx := wRat_ev hx (by omega) (by omega)
  have wy := wRat_ev hy (by omega) (by omega)
  have wa := rAnswerZ_ev e2 (by omega) (by omega)
  exact Rn.bind wx (Rn.bind wy (Rn.bind e1 (Rn.bind wa (Rn.pure _))))
theorem zDiv_ev (h0 : y ≠ 0) : ∃ s p t r, Fr s p t r (x / y) ∧ Rn (fun k => Frat_two_bnj k x0 x1 x2 x3 y0 y1 y2 y3) (ansZ s p t r) := by
  obtain ⟨s, p, t, r, e1, e2, e3, e4⟩ := rQuo_ev hx hy (by omega) (by omega) (by omega) (by omega) false false h0
  refine ⟨s, p, t, r, e2, ?_⟩
  refine Rn.up (f := fun k => Frat_two_bnj k x0 x1 x2 x3 y0 y1 y2 y3) ?_
  refine Rn.bind (all2_ok hx hy l1 l3 m1 m3) (Rn.f (by simp) ?_)
  have wx := wRat_ev hx (by omega) (by omega)
  have wy := wRat_ev hy (by omega) (by omega)
  have wa := rAnswerZ_ev e2 (by omega) (by omega)
  exact Rn.bind wx (Rn.bind wy (Rn.bind e1 (Rn.bind wa (Rn.pure _))))
theorem calls_add : ∃ s p t r, Fr s p t r (x + y) ∧ Rn (fun k => Frat_Add k x0 x1 x2 x3 y0 y1 y2 y3) (ansZ s p t r) := by
  obtain ⟨s, p, t, r, e2, e1⟩ := zAdd_ev hx hy l1 l3 m1 m3
  exact ⟨s, p, t, r, e2, Rn.up (f := fun k => Frat_Add k x0 x1 x2 x3 y0 y1 y2 y3) (Rn.bind e1 (Rn.pure _))⟩
theorem calls_sub : ∃ s p t r, Fr s p t r (x - y) ∧ Rn (fun k => Frat_Sub k x0 x1 x2 x3 y0 y1 y2 y3) (ansR s p t r) := by
  obtain ⟨s, p, t, r, e2, e1⟩ := zSub_ev hx hy l1 l3 m1 m3
  obtain ⟨⟨f1, f2⟩, f3⟩ := frz_ans s t p r
  refine ⟨s, p, t, r, e2, ?_⟩
  rw [← f3]
  refine Rn.up (f := fun k => Frat_Sub k x0 x1 x2 x3 y0 y1 y2 y3) ?_
  exact Rn.bind e1 (Rn.t f1 (Rn.t f2 (Rn.pure _)))
theorem calls_mul : ∃ s p t r, Fr s p t r (x * y) ∧ Rn (fun k => Frat_Mul k x0 x1 x2 x3 y0 y1 y2 y3) (ansR s p t r) := by
  obtain ⟨s, p, t, r, e2, e1⟩ := zMul_ev hx hy l1 l3 m1 m3
  obtain ⟨⟨f1, f2⟩, f3⟩ := frz_ans s t p r
  refine ⟨s, p, t, r, e2, ?_⟩
  rw [← f3]
  refine Rn.up (f := fun k => Frat_Mul k x0 x1 x2 x3 y0 y1 y2 y3) ?_
  exact Rn.bind e1 (Rn.t f1 (Rn.t f2 (Rn.pure _)))
theorem calls_div (h0 : y ≠ 0) : ∃ s p t r, Fr s p t r (x / y) ∧ Rn (fun k => Frat_Div k x0 x1 x2 x3 y0 y1 y2 y3) (ansR s p t r) := by
  obtain ⟨s, p, t, r, e2, e1⟩ := zDiv_ev hx hy l1 l3 m1 m3 h0
  obtain ⟨⟨f1, f2⟩, f3⟩ := frz_ans s t p r
  refine ⟨s, p, t, r, e2, ?_⟩
  rw [← f3]
  refine Rn.up (f := fun k => Frat_Div k x0 x1 x2 x3 y0 y1 y2 y3) ?_
  have hl : y1 ≠ [] := by
    intro e
    have := hy.1.z
    rw [e] at this
    simp only [V] at this
    exact absurd (Rat.num_eq_zero.1 (by cases y0 <;> simp at this <;> omega)) h0
  exact Rn.bind (all2_ok hx hy l1 l3 m1 m3) (Rn.f (by simp) (Rn.f (by simpa using hl) (Rn.bind e1 (Rn.t f1 (Rn.t f2 (Rn.pure _))))))
/- The document's. -/
theorem ref_ok : Rn (fun k => Fshuntref02_Faults k (List.take 2 [((x0, x1), (x2, x3)), ((y0, y1), (y2, y3))])) 0 := by
  have e : faultsR 0 [((x0, x1), (x2, x3)), ((y0, y1), (y2, y3))] = 0 := by
    rw [faultsR_zero]
    refine ⟨.inl rfl, fun r hr => ?_⟩
    simp only [List.mem_cons, List.not_mem_nil, or_false] at hr
    rcases hr with rfl | rfl
    · exact fr_fault hx l1 l3
    · exact fr_fault hy m1 m3
  have := Faults_ev [((x0, x1), (x2, x3)), ((y0, y1), (y2, y3))] (by simp) (fun r hr => by
    simp only [List.mem_cons, List.not_mem_nil, or_false] at hr
    rcases hr with rfl | rfl
    · exact ⟨⟨show x1.length ≤ _ by omega, hx.1.c.1⟩, show x3.length ≤ _ by omega, hx.2.c.1⟩
    · exact ⟨⟨show y1.length ≤ _ by omega, hy.1.c.1⟩, show y3.length ≤ _ by omega, hy.2.c.1⟩)
  rw [e] at this
  exact this
theorem ref_add : ∃ s p t r, Fr s p t r (x + y) ∧ Rn (fun k => Fshuntref02_Two k 43 x0 x1 x2 x3 y0 y1 y2 y3) (ansR s p t r) := by
  obtain ⟨p1, r1, t1, t2, t3, t4⟩ := take2_ev hx (by omega) (by omega)
  obtain ⟨p2, r2, u1, u2, u3, u4⟩ := take2_ev hy (by omega) (by omega)
  have dx := Rat.den_pos' x
  have dy := Rat.den_pos' y
  have dd := Int.mul_pos dx dy
  obtain ⟨s1, n1, a1, a2, a3⟩ := Times_ev x0 y2 p1 r2 t2.1 u2.2 (by omega) (by omega)
  obtain ⟨s2, n2, b1, b2, b3⟩ := Times_ev y0 x2 p2 r1 u2.1 t2.2 (by omega) (by omega)
  obtain ⟨s3, n3, c1, c2, c3⟩ := Plus_ev s1 s2 n1 n2 a2 b2 (by omega) (by omega)
  obtain ⟨s4, n4, d1, d2, d3⟩ := Times_ev x2 y2 r1 r2 t2.2 u2.2 (by omega) (by omega)
  obtain ⟨s, p, t, r, e1, e2, e3, e4⟩ := rLowest_ev _ _ _ _ c2 d2 (by omega) (by omega) (by omega)
  have e2' := e2.cast (rat_add x y)
  obtain ⟨gp, gr, g1, g2⟩ := told2_ev e2' (by omega) (by omega)
  have hf : Rn (fun k => Fshuntref02_Plus k x0 p1 x2 r1 y0 p2 y2 r2) (s, p, t, r) := Rn.up (f := fun k => Fshuntref02_Plus k x0 p1 x2 r1 y0 p2 y2 r2) (Rn.bind a1 (Rn.bind b1 (Rn.bind c1 (Rn.bind d1 (Rn.bind e1 (Rn.pure _))))))
  refine ⟨_, gp, _, gr, g1, Rn.up (f := fun k => Fshuntref02_Two k 43 x0 x1 x2 x3 y0 y1 y2 y3) ?_⟩
  exact Rn.bind (ref_ok hx hy l1 l3 m1 m3) (Rn.f (by simp) (Rn.bind t1 (Rn.bind u1 (Rn.t (by simp) (Rn.bind hf (Rn.bind g2 (Rn.pure _)))))))
theorem ref_sub : ∃ s p t r, Fr s p t r (x - y) ∧ Rn (fun k => Fshuntref02_Two k 45 x0 x1 x2 x3 y0 y1 y2 y3) (ansR s p t r) := by
  obtain ⟨p1, r1, t1, t2, t3, t4⟩ := take2_ev hx (by omega) (by omega)
  obtain ⟨p2, r2, u1, u2, u3, u4⟩ := take2_ev hy (by omega) (by omega)
  have dx := Rat.den_pos' x
  have dy := Rat.den_pos' y
  have dd := Int.mul_pos dx dy
  obtain ⟨s0, n0, m1', m2', m3'⟩ := Minus_ev y0 p2 u2.1
  have hneg : FrU s0 n0 y2 r2 (-y) := ⟨by rw [Rat.neg_num]; exact m2', by rw [Rat.neg_den]; exact u2.2⟩
  obtain ⟨s1, n1, a1, a2, a3⟩ := Times_ev x0 y2 p1 r2 t2.1 hneg.2 (by omega) (by omega)
  obtain ⟨s2, n2, b1, b2, b3⟩ := Times_ev s0 x2 n0 r1 hneg.1 t2.2 (by omega) (by omega)
  obtain ⟨s3, n3, c1, c2, c3⟩ := Plus_ev s1 s2 n1 n2 a2 b2 (by omega) (by omega)
  obtain ⟨s4, n4, d1, d2, d3⟩ := Times_ev x2 y2 r1 r2 t2.2 hneg.2 (by omega) (by omega)
  have dn := Rat.den_pos' (-y)
  have dm := Int.mul_pos dx dn
  obtain ⟨s, p, t, r, e1, e2, e3, e4⟩ := rLowest_ev _ _ _ _ c2 d2 (by omega) (by omega) (by omega)
  have e2' := e2.cast ((rat_add x (-y)).trans (Rat.sub_eq_add_neg x y).symm)
  obtain ⟨gp, gr, g1, g2⟩ := told2_ev e2' (by omega) (by omega)
  have hp : Rn (fun k => Fshuntref02_Plus k x0 p1 x2 r1 s0 n0 y2 r2) (s, p, t, r) := Rn.up (f := fun k => Fshuntref02_Plus k x0 p1 x2 r1 s0 n0 y2 r2) (Rn.bind a1 (Rn.bind b1 (Rn.bind c1 (Rn.bind d1 (Rn.bind e1 (Rn.pure _))))))
  have hm : Rn (fun k => Fshuntref02_Minus k y0 p2 y2 r2) (s0, n0, y2, r2) := Rn.up (f := fun k => Fshuntref02_Minus k y0 p2 y2 r2) (Rn.bind m1' (Rn.pure _))
  have hf : Rn (fun k => Fshuntref02_Less k x0 p1 x2 r1 y0 p2 y2 r2) (s, p, t, r) := Rn.up (f := fun k => Fshuntref02_Less k x0 p1 x2 r1 y0 p2 y2 r2) (Rn.bind hm (Rn.bind hp (Rn.pure _)))
  refine ⟨_, gp, _, gr, g1, Rn.up (f := fun k => Fshuntref02_Two k 45 x0 x1 x2 x3 y0 y1 y2 y3) ?_⟩
  exact Rn.bind (ref_ok hx hy l1 l3 m1 m3) (Rn.f (by simp) (Rn.bind t1 (Rn.bind u1 (Rn.f (by simp) (Rn.t (by simp) (Rn.bind hf (Rn.bind g2 (Rn.pure _))))))))
theorem ref_mul : ∃ s p t r, Fr s p t r (x * y) ∧ Rn (fun k => Fshuntref02_Two k 42 x0 x1 x2 x3 y0 y1 y2 y3) (ansR s p t r) := by
  obtain ⟨p1, r1, t1, t2, t3, t4⟩ := take2_ev hx (by omega) (by omega)
  obtain ⟨p2, r2, u1, u2, u3, u4⟩ := take2_ev hy (by omega) (by omega)
  have dx := Rat.den_pos' x
  have dy := Rat.den_pos' y
  have dd := Int.mul_pos dx dy
  obtain ⟨s1, n1, a1, a2, a3⟩ := Times_ev x0 y0 p1 p2 t2.1 u2.1 (by omega) (by omega)
  obtain ⟨s4, n4, d1, d2, d3⟩ := Times_ev x2 y2 r1 r2 t2.2 u2.2 (by omega) (by omega)
  obtain ⟨s, p, t, r, e1, e2, e3, e4⟩ := rLowest_ev _ _ _ _ a2 d2 (by omega) (by omega) (by omega)
  have e2' := e2.cast (rat_mul x y)
  obtain ⟨gp, gr, g1, g2⟩ := told2_ev e2' (by omega) (by omega)
  have hf : Rn (fun k => Fshuntref02_Times k x0 p1 x2 r1 y0 p2 y2 r2) (s, p, t, r) := Rn.up (f := fun k => Fshuntref02_Times k x0 p1 x2 r1 y0 p2 y2 r2) (Rn.bind a1 (Rn.bind d1 (Rn.bind e1 (Rn.pure _))))
  refine ⟨_, gp, _, gr, g1, Rn.up (f := fun k => Fshuntref02_Two k 42 x0 x1 x2 x3 y0 y1 y2 y3) ?_⟩
  exact Rn.bind (ref_ok hx hy l1 l3 m1 m3) (Rn.f (by simp) (Rn.bind t1 (Rn.bind u1 (Rn.f (by simp) (Rn.f (by simp) (Rn.t (by simp) (Rn.bind hf (Rn.bind g2 (Rn.pure _)))))))))
theorem ref_div (h0 : y ≠ 0) : ∃ s p t r, Fr s p t r (x / y) ∧ Rn (fun k => Fshuntref02_Two k 47 x0 x1 x2 x3 y0 y1 y2 y3) (ansR s p t r) := by
  obtain ⟨p1, r1, t1, t2, t3, t4⟩ := take2_ev hx (by omega) (by omega)
  obtain ⟨p2, r2, u1, u2, u3, u4⟩ := take2_ev hy (by omega) (by omega)
  have dx := Rat.den_pos' x
  have dy := Rat.den_pos' y
  have dd := Int.mul_pos dx dy
  have hny : y.num ≠ 0 := fun h => h0 (Rat.num_eq_zero.1 h)
  have hdn : (x.den : Int) * y.num ≠ 0 := Int.mul_ne_zero (by omega) hny
  have hsg := Sign_ev y0 p2 u2.1
  obtain ⟨c, hc, hcc⟩ := cmpZ_cases y.num 0
  rw [hc] at hsg
  have hc0 : c ≠ 0 := by
    rcases hcc with ⟨h, _⟩ | ⟨_, h⟩ | ⟨h, _⟩ <;> first | omega | exact absurd h hny
  have hs2 : Rn (fun k => Fshuntref02_Sign k y0 p2 y2 r2) c := Rn.up (f := fun k => Fshuntref02_Sign k y0 p2 y2 r2) (Rn.bind hsg (Rn.pure _))
  obtain ⟨s1, n1, a1, a2, a3⟩ := Times_ev x0 y2 p1 r2 t2.1 u2.2 (by omega) (by omega)
  obtain ⟨s4, n4, d1, d2, d3⟩ := Times_ev x2 y0 r1 p2 t2.2 u2.1 (by omega) (by omega)
  obtain ⟨s, p, t, r, e1, e2, e3, e4⟩ := rLowest_ev _ _ _ _ a2 d2 (by omega) (by omega) hdn
  have e2' := e2.cast (rat_quo x y)
  obtain ⟨gp, gr, g1, g2⟩ := told2_ev e2' (by omega) (by omega)
  have hf : Rn (fun k => Fshuntref02_Over k x0 p1 x2 r1 y0 p2 y2 r2) (s, p, t, r) := Rn.up (f := fun k => Fshuntref02_Over k x0 p1 x2 r1 y0 p2 y2 r2) (Rn.bind a1 (Rn.bind d1 (Rn.bind e1 (Rn.pure _))))
  refine ⟨_, gp, _, gr, g1, Rn.up (f := fun k => Fshuntref02_Two k 47 x0 x1 x2 x3 y0 y1 y2 y3) ?_⟩
  exact Rn.bind (ref_ok hx hy l1 l3 m1 m3) (Rn.f (by simp) (Rn.bind t1 (Rn.bind u1 (Rn.f (by simp) (Rn.f (by simp) (Rn.f (by simp) (Rn.bind hs2 (Rn.f (by simpa using hc0) (Rn.bind hf (Rn.bind g2 (Rn.pure _)))))))))))
theorem ref_div0 (h0 : y = 0) : Rn (fun k => Fshuntref02_Two k 47 x0 x1 x2 x3 y0 y1 y2 y3) (false, [], false, [], 11) := by
  obtain ⟨p1, r1, t1, t2, t3, t4⟩ := take2_ev hx (by omega) (by omega)
  obtain ⟨p2, r2, u1, u2, u3, u4⟩ := take2_ev hy (by omega) (by omega)
  have hsg := Sign_ev y0 p2 u2.1
  have hs2 : Rn (fun k => Fshuntref02_Sign k y0 p2 y2 r2) 0 := by
    have e : cmpZ y.num 0 = 0 := by rw [h0]; rfl
    rw [e] at hsg
    exact Rn.up (f := fun k => Fshuntref02_Sign k y0 p2 y2 r2) (Rn.bind hsg (Rn.pure _))
  refine Rn.up (f := fun k => Fshuntref02_Two k 47 x0 x1 x2 x3 y0 y1 y2 y3) ?_
  exact Rn.bind (ref_ok hx hy l1 l3 m1 m3) (Rn.f (by simp) (Rn.bind t1 (Rn.bind u1 (Rn.f (by simp) (Rn.f (by simp) (Rn.f (by simp) (Rn.bind hs2 (Rn.t (by simp) (Rn.pure _)))))))))
theorem ref_cmp : Rn (fun k => Fshuntref02_Cmp k x0 x1 x2 x3 y0 y1 y2 y3) (cmpR x y, 0) := by
  obtain ⟨p1, r1, t1, t2, t3, t4⟩ := take2_ev hx (by omega) (by omega)
  obtain ⟨p2, r2, u1, u2, u3, u4⟩ := take2_ev hy (by omega) (by omega)
  obtain ⟨s1, n1, a1, a2, a3⟩ := Times_ev x0 y2 p1 r2 t2.1 u2.2 (by omega) (by omega)
  obtain ⟨s2, n2, b1, b2, b3⟩ := Times_ev y0 x2 p2 r1 u2.1 t2.2 (by omega) (by omega)
  have hh := Held_ev s1 s2 n1 n2 a2 b2 (by omega) (by omega)
  have hf : Rn (fun k => Fshuntref02_Held k x0 p1 x2 r1 y0 p2 y2 r2) (cmpR x y) := Rn.up (f := fun k => Fshuntref02_Held k x0 p1 x2 r1 y0 p2 y2 r2) (Rn.bind a1 (Rn.bind b1 (Rn.bind hh (Rn.pure _))))
  refine Rn.up (f := fun k => Fshuntref02_Cmp k x0 x1 x2 x3 y0 y1 y2 y3) ?_
  exact Rn.bind (ref_ok hx hy l1 l3 m1 m3) (Rn.f (by simp) (Rn.bind t1 (Rn.bind u1 (Rn.bind hf (Rn.pure _)))))
theorem calls_div0 (h0 : y = 0) : Rn (fun k => Frat_Div k x0 x1 x2 x3 y0 y1 y2 y3) (false, [], false, [], 11) := by
  have hl : y1 = [] := by
    refine (hy.1.c.nil_iff (B := W) (by decide)).2 ?_
    rw [hy.1.abs (by decide), h0]; rfl
  exact Rn.up (f := fun k => Frat_Div k x0 x1 x2 x3 y0 y1 y2 y3) (Rn.bind (all2_ok hx hy l1 l3 m1 m3) (Rn.f (by simp) (Rn.t (by simp [hl]) (Rn.pure _))))
end
end Go.Proofs.YtjgpegpjmkgkkaaGreat.Am

/- Plain reckoning: every call of two fractions is the document's; what is lent. -/
set_option linter.unusedVariables false
set_option linter.unusedSectionVars false
set_option linter.unusedSimpArgs false
set_option maxRecDepth 10000
namespace Go.Proofs.YtjgpegpjmkgkkaaGreat.Am
open Go
def mkz (l : List Int) : List Int := l ++ [11259375]
theorem lentInt_ev (a0 : Bool) (a1 : List Int) (hl : a1.length ≤ 1000) : Rn (fun k => Fshuntlaw02_lentInt k a0 a1) (a0, a1.length, mkz a1) := by
  refine Rn.up (f := fun k => Fshuntlaw02_lentInt k a0 a1) ?_
  show Rn (fun k => bshuntlaw02_lentInt k a0 a1) _
  unfold bshuntlaw02_lentInt
  have e : List.take (0 + a1.length) (List.take 0 [] ++ a1) = a1 := by simp
  simp (config := { implicitDefEqProofs := false, maxSteps := 2000000 }) (disch := omega) only [ps, ↓reduceIte, reduceCtorEq, Int.reduceLT, Int.reduceLE, Int.reduceEq, Nat.reduceLT, Nat.reduceLeDiff, Nat.reduceEqDiff, Int.reduceNeg, eitherK, List.take_length, List.length_append, List.length_cons, List.take_succ_cons]
  exact Rn.pure _
theorem lent2_ev (a0 a2 : Bool) (a1 a3 : List Int) (h1 : a1.length ≤ 1000) (h3 : a3.length ≤ 1000) : Rn (fun k => Fshuntlaw02_lent k a0 a1 a2 a3) (a0, a1.length, a2, a3.length, mkz a1, mkz a3) :=
  Rn.up (f := fun k => Fshuntlaw02_lent k a0 a1 a2 a3) (Rn.bind (lentInt_ev a0 a1 h1) (Rn.bind (lentInt_ev a2 a3 h3) (Rn.pure _)))
theorem wholeZ_ev (a0 a2 : Bool) (a1 a3 : List Int) (h1 : a1.length ≤ 1000) (h3 : a3.length ≤ 1000) : Rn (fun k => Fshuntlaw02_whole_xsw k a0 a1.length a2 a3.length a0 a1 a2 a3 (mkz a1) (mkz a3)) (true, mkz a1, mkz a3) := by
  refine Rn.up (f := fun k => Fshuntlaw02_whole_xsw k a0 a1.length a2 a3.length a0 a1 a2 a3 (mkz a1) (mkz a3)) ?_
  show Rn (fun k => bshuntlaw02_whole_xsw k a0 a1.length a2 a3.length a0 a1 a2 a3 (mkz a1) (mkz a3)) _
  unfold bshuntlaw02_whole_xsw
  have m1 : (mkz a1).length = a1.length + 1 := by simp [mkz]
  have m3 : (mkz a3).length = a3.length + 1 := by simp [mkz]
  have t1 : List.take a1.length (mkz a1) = a1 := List.take_left
  have t3 : List.take a3.length (mkz a3) = a3 := List.take_left
  have g1 : (mkz a1)[a1.length]? = some 11259375 := by simp [mkz]
  have g3 : (mkz a3)[a3.length]? = some 11259375 := by simp [mkz]
  (first | (refine Rn.t ?hc ?_; case hc => simp (config := { implicitDefEqProofs := false, maxSteps := 2000000 }) (disch := omega) only [ps, ↓reduceIte, reduceCtorEq, Int.reduceLT, Int.reduceLE, Int.reduceEq, Nat.reduceLT, Nat.reduceLeDiff, Nat.reduceEqDiff, Int.reduceNeg, eitherK, m1]) | (refine Rn.f ?hc ?_; case hc => simp (config := { implicitDefEqProofs := false, maxSteps := 2000000 }) (disch := omega) only [ps, ↓reduceIte, reduceCtorEq, Int.reduceLT, Int.reduceLE, Int.reduceEq, Nat.reduceLT, Nat.reduceLeDiff, Nat.reduceEqDiff, Int.reduceNeg, eitherK, m1]))
  (first | (refine Rn.t ?hc ?_; case hc => simp (config := { implicitDefEqProofs := false, maxSteps := 2000000 }) (disch := omega) only [ps, ↓reduceIte, reduceCtorEq, Int.reduceLT, Int.reduceLE, Int.reduceEq, Nat.reduceLT, Nat.reduceLeDiff, Nat.reduceEqDiff, Int.reduceNeg, eitherK, m3]) | (refine Rn.f ?hc ?_; case hc => simp (config := { implicitDefEqProofs := false, maxSteps := 2000000 }) (disch := omega) only [ps, ↓reduceIte, reduceCtorEq, Int.reduceLT, Int.reduceLE, Int.reduceEq, Nat.reduceLT, Nat.reduceLeDiff, Nat.reduceEqDiff, Int.reduceNeg, eitherK, m3]))
  rw [t1, t3]
  refine Rn.bind (same2_t a0 a2 a1 a3 (by omega) (by omega)) ?_
  have i1 : ((a1.length : Int) + 1) = ((a1.length + 1 : Nat) : Int) := rfl
  have i3 : ((a3.length : Int) + 1) = ((a3.length + 1 : Nat) : Int) := rfl
  simp (config := { implicitDefEqProofs := false, maxSteps := 2000000 }) (disch := omega) only [ps, ↓reduceIte, reduceCtorEq, Int.reduceLT, Int.reduceLE, Int.reduceEq, Nat.reduceLT, Nat.reduceLeDiff, Nat.reduceEqDiff, Int.reduceNeg, eitherK, m1, m3, i1, i3, g1, g3]
  exact Rn.pure _
theorem ansZR (s t : Bool) (p r : List Int) : ∃ s' p' t' r' e, ansZ s p t r = (s', p'.length, t', r'.length, e, p', r') ∧ ansR s p t r = (s', p', t', r', e) ∧ p'.length ≤ 72 ∧ r'.length ≤ 72 := by
  unfold ansZ ansR
  split
  · rename_i h; exact ⟨s, p, t, r, 0, rfl, rfl, h.1, h.2⟩
  · exact ⟨false, [], false, [], 13, rfl, rfl, by simp, by simp⟩
theorem ansR_parts (s t : Bool) (p r : List Int) : ∃ s' p' t' r' e, ansR s p t r = (s', p', t', r', e) ∧ p'.length ≤ 72 ∧ r'.length ≤ 72 := by
  obtain ⟨s', p', t', r', e, _, h2, h3⟩ := ansZR s t p r
  exact ⟨s', p', t', r', e, h2, h3⟩
/-- All five, alike. -/
theorem calls_all {x0 x2 y0 y2 : Bool} {x1 x3 y1 y3 : List Int} (ga : RT.good ((x0, x1), (x2, x3))) (gb : RT.good ((y0, y1), (y2, y3))) :
    ∃ sA pA tA rA eA sS pS tS rS eS sM pM tM rM eM sD pD tD rD eD c eC,
      (Rn (fun k => Frat_Add k x0 x1 x2 x3 y0 y1 y2 y3) (sA, pA.length, tA, rA.length, eA, pA, rA) ∧ Rn (fun k => Fshuntref02_Two k 43 x0 x1 x2 x3 y0 y1 y2 y3) (sA, pA, tA, rA, eA) ∧ pA.length ≤ 72 ∧ rA.length ≤ 72) ∧
      (Rn (fun k => Frat_Sub k x0 x1 x2 x3 y0 y1 y2 y3) (sS, pS, tS, rS, eS) ∧ Rn (fun k => Fshuntref02_Two k 45 x0 x1 x2 x3 y0 y1 y2 y3) (sS, pS, tS, rS, eS) ∧ pS.length ≤ 72 ∧ rS.length ≤ 72) ∧
      (Rn (fun k => Frat_Mul k x0 x1 x2 x3 y0 y1 y2 y3) (sM, pM, tM, rM, eM) ∧ Rn (fun k => Fshuntref02_Two k 42 x0 x1 x2 x3 y0 y1 y2 y3) (sM, pM, tM, rM, eM) ∧ pM.length ≤ 72 ∧ rM.length ≤ 72) ∧
      (Rn (fun k => Frat_Div k x0 x1 x2 x3 y0 y1 y2 y3) (sD, pD, tD, rD, eD) ∧ Rn (fun k => Fshuntref02_Two k 47 x0 x1 x2 x3 y0 y1 y2 y3) (sD, pD, tD, rD, eD) ∧ pD.length ≤ 72 ∧ rD.length ≤ 72) ∧
      (Rn (fun k => Frat_Cmp k x0 x1 x2 x3 y0 y1 y2 y3) (c, eC) ∧ Rn (fun k => Fshuntref02_Cmp k x0 x1 x2 x3 y0 y1 y2 y3) (c, eC)) := by
  have hgood : ∀ r ∈ [((x0, x1), (x2, x3)), ((y0, y1), (y2, y3))], RT.good r := by
    intro r hr
    simp only [List.mem_cons, List.not_mem_nil, or_false] at hr
    rcases hr with rfl | rfl <;> assumption
  have hA : Rn (fun k => Frat_all k (List.take 2 [((x0, x1), (x2, x3)), ((y0, y1), (y2, y3))])) _ := all_ev [((x0, x1), (x2, x3)), ((y0, y1), (y2, y3))] (by simp) hgood
  have hF : Rn (fun k => Fshuntref02_Faults k (List.take 2 [((x0, x1), (x2, x3)), ((y0, y1), (y2, y3))])) _ := Faults_ev [((x0, x1), (x2, x3)), ((y0, y1), (y2, y3))] (by simp) hgood
  have hz := faultsR_zero [((x0, x1), (x2, x3)), ((y0, y1), (y2, y3))] 0
  generalize faultsR 0 [((x0, x1), (x2, x3)), ((y0, y1), (y2, y3))] = w at *
  by_cases h0 : w = 0
  · have hall := (hz.1 h0).2
    obtain ⟨x, fx, l1, l3⟩ := fault_fr ga.1.2 ga.2.2 (hall ((x0, x1), (x2, x3)) (by simp))
    obtain ⟨y, fy, m1, m3⟩ := fault_fr gb.1.2 gb.2.2 (hall ((y0, y1), (y2, y3)) (by simp))
    simp only at fx fy l1 l3 m1 m3
    obtain ⟨s, p, t, r, a1, a2⟩ := calls_add fx fy l1 l3 m1 m3
    obtain ⟨s', p', t', r', b1, b2⟩ := ref_add fx fy l1 l3 m1 m3
    obtain ⟨rfl, rfl, rfl, rfl⟩ := b1.ext a1
    obtain ⟨sA, pA, tA, rA, eA, e1, e2, e3, e4⟩ := ansZR s' t' p' r'
    rw [e1] at a2
    rw [e2] at b2
    obtain ⟨s, p, t, r, c1, c2⟩ := calls_sub fx fy l1 l3 m1 m3
    obtain ⟨s', p', t', r', d1, d2⟩ := ref_sub fx fy l1 l3 m1 m3
    obtain ⟨rfl, rfl, rfl, rfl⟩ := d1.ext c1
    obtain ⟨sS, pS, tS, rS, eS, f2, f3, f4⟩ := ansR_parts s' t' p' r'
    rw [f2] at c2 d2
    obtain ⟨s, p, t, r, g1, g2⟩ := calls_mul fx fy l1 l3 m1 m3
    obtain ⟨s', p', t', r', i1, i2⟩ := ref_mul fx fy l1 l3 m1 m3
    obtain ⟨rfl, rfl, rfl, rfl⟩ := i1.ext g1
    obtain ⟨sM, pM, tM, rM, eM, j2, j3, j4⟩ := ansR_parts s' t' p' r'
    rw [j2] at g2 i2
    have hD : ∃ sD pD tD rD eD, Rn (fun k => Frat_Div k x0 x1 x2 x3 y0 y1 y2 y3) (sD, pD, tD, rD, eD) ∧ Rn (fun k => Fshuntref02_Two k 47 x0 x1 x2 x3 y0 y1 y2 y3) (sD, pD, tD, rD, eD) ∧ pD.length ≤ 72 ∧ rD.length ≤ 72 := by
      by_cases hy0 : y = 0
      · exact ⟨false, [], false, [], 11, calls_div0 fx fy l1 l3 m1 m3 hy0, ref_div0 fx fy l1 l3 m1 m3 hy0, by simp, by simp⟩
      · obtain ⟨s, p, t, r, g1, g2⟩ := calls_div fx fy l1 l3 m1 m3 hy0
        obtain ⟨s', p', t', r', i1, i2⟩ := ref_div fx fy l1 l3 m1 m3 hy0
        obtain ⟨rfl, rfl, rfl, rfl⟩ := i1.ext g1
        obtain ⟨sM, pM, tM, rM, eM, j2, j3, j4⟩ := ansR_parts s' t' p' r'
        rw [j2] at g2 i2
        exact ⟨_, _, _, _, _, g2, i2, j3, j4⟩
    obtain ⟨sD, pD, tD, rD, eD, hD⟩ := hD
    exact ⟨_, _, _, _, _, _, _, _, _, _, _, _, _, _, _, _, _, _, _, _, _, _, ⟨a2, b2, e3, e4⟩, ⟨c2, d2, f3, f4⟩, ⟨g2, i2, j3, j4⟩, hD, ratCmp_ev fx fy l1 l3 m1 m3, ref_cmp fx fy l1 l3 m1 m3⟩
  · have hw : (w != 0) = true := by simpa using h0
    have q1 : ∀ {α : Type} (f : Nat → List RT → Option Int) , True := fun _ => trivial
    refine ⟨false, [], false, [], w, false, [], false, [], w, false, [], false, [], w, false, [], false, [], w, 0, w, ⟨?_, ?_, by simp, by simp⟩, ⟨?_, ?_, by simp, by simp⟩, ⟨?_, ?_, by simp, by simp⟩, ⟨?_, ?_, by simp, by simp⟩, ?_, ?_⟩
    · have ht : Rn (fun k => Frat_two_xgr k x0 x1 x2 x3 y0 y1 y2 y3) (false, 0, false, 0, w, [], []) := Rn.up (f := fun k => Frat_two_xgr k x0 x1 x2 x3 y0 y1 y2 y3) (Rn.bind hA (Rn.t hw (Rn.pure _)))
      exact Rn.up (f := fun k => Frat_Add k x0 x1 x2 x3 y0 y1 y2 y3) (Rn.bind ht (Rn.pure _))
    · exact Rn.up (f := fun k => Fshuntref02_Two k 43 x0 x1 x2 x3 y0 y1 y2 y3) (Rn.bind hF (Rn.t hw (Rn.pure _)))
    · have ht : Rn (fun k => Frat_two_jru k x0 x1 x2 x3 y0 y1 y2 y3) (false, 0, false, 0, w, [], []) := Rn.up (f := fun k => Frat_two_jru k x0 x1 x2 x3 y0 y1 y2 y3) (Rn.bind hA (Rn.t hw (Rn.pure _)))
      exact Rn.up (f := fun k => Frat_Sub k x0 x1 x2 x3 y0 y1 y2 y3) (Rn.bind ht (Rn.t (by simp) (Rn.t (by simp) (Rn.pure _))))
    · exact Rn.up (f := fun k => Fshuntref02_Two k 45 x0 x1 x2 x3 y0 y1 y2 y3) (Rn.bind hF (Rn.t hw (Rn.pure _)))
    · have ht : Rn (fun k => Frat_two_ikf k x0 x1 x2 x3 y0 y1 y2 y3) (false, 0, false, 0, w, [], []) := Rn.up (f := fun k => Frat_two_ikf k x0 x1 x2 x3 y0 y1 y2 y3) (Rn.bind hA (Rn.t hw (Rn.pure _)))
      exact Rn.up (f := fun k => Frat_Mul k x0 x1 x2 x3 y0 y1 y2 y3) (Rn.bind ht (Rn.t (by simp) (Rn.t (by simp) (Rn.pure _))))
    · exact Rn.up (f := fun k => Fshuntref02_Two k 42 x0 x1 x2 x3 y0 y1 y2 y3) (Rn.bind hF (Rn.t hw (Rn.pure _)))
    · exact Rn.up (f := fun k => Frat_Div k x0 x1 x2 x3 y0 y1 y2 y3) (Rn.bind hA (Rn.t hw (Rn.pure _)))
    · exact Rn.up (f := fun k => Fshuntref02_Two k 47 x0 x1 x2 x3 y0 y1 y2 y3) (Rn.bind hF (Rn.t hw (Rn.pure _)))
    · exact Rn.up (f := fun k => Frat_Cmp k x0 x1 x2 x3 y0 y1 y2 y3) (Rn.bind hA (Rn.t hw (Rn.pure _)))
    · exact Rn.up (f := fun k => Fshuntref02_Cmp k x0 x1 x2 x3 y0 y1 y2 y3) (Rn.bind hF (Rn.t hw (Rn.pure _)))
theorem sevens (a0 : Bool) (a1 : List Int) (a2 : Bool) (a3 : List Int) (b0 : Bool) (b1 : List Int) (b2 : Bool) (b3 : List Int) (x0 : Bool) (x11 : Nat) (x2 : Bool) (x3 : Nat) (y0 : Bool) (y1 : Nat) (y2 : Bool) (y3 : Nat) (s0 : Bool) (s1 : Nat) (s2 : Bool) (s3 : Nat) (s20 : Bool) (s21 : List Int) (s22 : Bool) (s23 : List Int) (t0 : Bool) (t1 : Nat) (t2 : Bool) (t3 : Nat) (m : List Int) (m1 : List Int) (m2 : List Int) (m3 : List Int) (m5 : List Int) (m6 : List Int) (m7 : List Int) (s1c : Nat) (h72 : s1c ≤ 1000) (hs : s1 = s1c) : ∀ (d i n k : Nat) (m4 : List Int), i + d = s1c → d < n → m4.length = s1c →
    Lshuntlaw02_RatCalls_0 k n s1c i a0 a1 a2 a3 b0 b1 b2 b3 x0 x11 x2 x3 y0 y1 y2 y3 s0 s1 s2 s3 s20 s21 s22 s23 t0 t1 t2 t3 m m1 m2 m3 m4 m5 m6 m7 = some (a0, a1, a2, a3, b0, b1, b2, b3, x0, x11, x2, x3, y0, y1, y2, y3, s0, s1, s2, s3, s20, s21, s22, s23, t0, t1, t2, t3, m, m1, m2, m3, (m4.take i ++ List.replicate d 7), m5, m6, m7) := by
  intro d
  induction d with
  | zero =>
    intro i n k m4 hi hn hl
    obtain ⟨n, rfl⟩ : ∃ m, n = m + 1 := ⟨n - 1, by omega⟩
    show Lshuntlaw02_RatCalls_0s k (Lshuntlaw02_RatCalls_0 k n) _ _ _ _ _ _ _ _ _ _ _ _ _ _ _ _ _ _ _ _ _ _ _ _ _ _ _ _ _ _ _ _ _ _ _ _ _ _ = _
    unfold Lshuntlaw02_RatCalls_0s
    simp (config := { implicitDefEqProofs := false, maxSteps := 2000000 }) (disch := omega) only [ps, ↓reduceIte, reduceCtorEq, Int.reduceLT, Int.reduceLE, Int.reduceEq, Nat.reduceLT, Nat.reduceLeDiff, Nat.reduceEqDiff, Int.reduceNeg, eitherK]
    rw [List.take_of_length_le (by omega)]; simp
  | succ d ih =>
    intro i n k m4 hi hn hl
    obtain ⟨n, rfl⟩ : ∃ m, n = m + 1 := ⟨n - 1, by omega⟩
    obtain ⟨x, hx⟩ := get_of (show i < m4.length by omega)
    have g1 : ((i : Int) + 1) = ((i + 1 : Nat) : Int) := rfl
    have q := ih (i + 1) n k (m4.set i 7) (by omega) (by omega) (by simpa using hl)
    rw [set_take_succ _ _ _ (by omega), List.append_assoc] at q
    rw [show List.replicate (d + 1) (7 : Int) = [7] ++ List.replicate d 7 from rfl, ← q]
    show Lshuntlaw02_RatCalls_0s k (Lshuntlaw02_RatCalls_0 k n) _ _ _ _ _ _ _ _ _ _ _ _ _ _ _ _ _ _ _ _ _ _ _ _ _ _ _ _ _ _ _ _ _ _ _ _ _ _ = _
    unfold Lshuntlaw02_RatCalls_0s
    simp (config := { implicitDefEqProofs := false, maxSteps := 2000000 }) (disch := omega) only [ps, ↓reduceIte, reduceCtorEq, Int.reduceLT, Int.reduceLE, Int.reduceEq, Nat.reduceLT, Nat.reduceLeDiff, Nat.reduceEqDiff, Int.reduceNeg, eitherK, hx, g1]
theorem eights (a0 : Bool) (a1 : List Int) (a2 : Bool) (a3 : List Int) (b0 : Bool) (b1 : List Int) (b2 : Bool) (b3 : List Int) (x0 : Bool) (x11 : Nat) (x2 : Bool) (x3 : Nat) (y0 : Bool) (y1 : Nat) (y2 : Bool) (y3 : Nat) (s0 : Bool) (s1 : Nat) (s2 : Bool) (s3 : Nat) (s20 : Bool) (s21 : List Int) (s22 : Bool) (s23 : List Int) (t0 : Bool) (t1 : Nat) (t2 : Bool) (t3 : Nat) (m : List Int) (m1 : List Int) (m2 : List Int) (m3 : List Int) (m4 : List Int) (m6 : List Int) (m7 : List Int) (s1c : Nat) (h72 : s1c ≤ 1000) (hs : s3 = s1c) : ∀ (d i n k : Nat) (m5 : List Int), i + d = s1c → d < n → m5.length = s1c →
    Lshuntlaw02_RatCalls_2 k n s1c i a0 a1 a2 a3 b0 b1 b2 b3 x0 x11 x2 x3 y0 y1 y2 y3 s0 s1 s2 s3 s20 s21 s22 s23 t0 t1 t2 t3 m m1 m2 m3 m4 m5 m6 m7 = some (a0, a1, a2, a3, b0, b1, b2, b3, x0, x11, x2, x3, y0, y1, y2, y3, s0, s1, s2, s3, s20, s21, s22, s23, t0, t1, t2, t3, m, m1, m2, m3, m4, (m5.take i ++ List.replicate d 8), m6, m7) := by
  intro d
  induction d with
  | zero =>
    intro i n k m5 hi hn hl
    obtain ⟨n, rfl⟩ : ∃ m, n = m + 1 := ⟨n - 1, by omega⟩
    show Lshuntlaw02_RatCalls_2s k (Lshuntlaw02_RatCalls_2 k n) _ _ _ _ _ _ _ _ _ _ _ _ _ _ _ _ _ _ _ _ _ _ _ _ _ _ _ _ _ _ _ _ _ _ _ _ _ _ = _
    unfold Lshuntlaw02_RatCalls_2s
    simp (config := { implicitDefEqProofs := false, maxSteps := 2000000 }) (disch := omega) only [ps, ↓reduceIte, reduceCtorEq, Int.reduceLT, Int.reduceLE, Int.reduceEq, Nat.reduceLT, Nat.reduceLeDiff, Nat.reduceEqDiff, Int.reduceNeg, eitherK]
    rw [List.take_of_length_le (by omega)]; simp
  | succ d ih =>
    intro i n k m5 hi hn hl
    obtain ⟨n, rfl⟩ : ∃ m, n = m + 1 := ⟨n - 1, by omega⟩
    obtain ⟨x, hx⟩ := get_of (show i < m5.length by omega)
    have g1 : ((i : Int) + 1) = ((i + 1 : Nat) : Int) := rfl
    have q := ih (i + 1) n k (m5.set i 8) (by omega) (by omega) (by simpa using hl)
    rw [set_take_succ _ _ _ (by omega), List.append_assoc] at q
    rw [show List.replicate (d + 1) (8 : Int) = [8] ++ List.replicate d 8 from rfl, ← q]
    show Lshuntlaw02_RatCalls_2s k (Lshuntlaw02_RatCalls_2 k n) _ _ _ _ _ _ _ _ _ _ _ _ _ _ _ _ _ _ _ _ _ _ _ _ _ _ _ _ _ _ _ _ _ _ _ _ _ _ = _
    unfold Lshuntlaw02_RatCalls_2s
    simp (config := { implicitDefEqProofs := false, maxSteps := 2000000 }) (disch := omega) only [ps, ↓reduceIte, reduceCtorEq, Int.reduceLT, Int.reduceLE, Int.reduceEq, Nat.reduceLT, Nat.reduceLeDiff, Nat.reduceEqDiff, Int.reduceNeg, eitherK, hx, g1]
end Go.Proofs.YtjgpegpjmkgkkaaGreat.Am

/- Plain reckoning: how long the law's numbers are together. -/
set_option linter.unusedVariables false
set_option linter.unusedSimpArgs false
set_option maxRecDepth 10000
namespace Go.Proofs.YtjgpegpjmkgkkaaGreat.Am
open Go
def sumL : List (Bool × List Int) → Int
  | [] => 0
  | r :: t => min (r.2.length : Int) 1000 + sumL t
theorem long_loop (l : List (Bool × List Int)) (hl : l.length ≤ 1000) : ∀ (d i : Nat) (n0 : Int), i + d = l.length → 0 ≤ n0 ∧ n0 ≤ 1000 * i → ∀ k n, d < n → Lshuntlaw02_long_0 k n n0 l l.length i = some (n0 + sumL (l.drop i)) := by
  intro d
  induction d with
  | zero =>
    intro i n0 hi h0 k n hn
    obtain ⟨n, rfl⟩ : ∃ m, n = m + 1 := ⟨n - 1, by omega⟩
    rw [List.drop_of_length_le (by omega)]
    show Lshuntlaw02_long_0s k (Lshuntlaw02_long_0 k n) _ _ _ _ = _
    unfold Lshuntlaw02_long_0s
    simp (config := { implicitDefEqProofs := false, maxSteps := 2000000 }) (disch := omega) only [ps, ↓reduceIte, reduceCtorEq, Int.reduceLT, Int.reduceLE, Int.reduceEq, Nat.reduceLT, Nat.reduceLeDiff, Nat.reduceEqDiff, Int.reduceNeg, eitherK, sumL, Int.add_zero]
  | succ d ih =>
    intro i n0 hi h0 k n hn
    obtain ⟨n, rfl⟩ : ∃ m, n = m + 1 := ⟨n - 1, by omega⟩
    have hil : i < l.length := by omega
    obtain ⟨r, hr⟩ : ∃ r, l[i]? = some r := ⟨l[i], List.getElem?_eq_getElem hil⟩
    have hdrop : l.drop i = r :: l.drop (i + 1) := by
      rw [List.drop_eq_getElem_cons hil]
      rw [List.getElem?_eq_getElem hil] at hr
      cases hr; rfl
    have h1 : ((i : Int) + 1) = ((i + 1 : Nat) : Int) := rfl
    rw [hdrop]
    simp only [sumL]
    rw [← Int.add_assoc, ← ih (i + 1) (n0 + min (r.2.length : Int) 1000) (by omega) (by omega) k n (by omega)]
    have hw : IntKind.wrap .i64 (n0 + min (r.2.length : Int) 1000) = n0 + min (r.2.length : Int) 1000 := wrap_i64 (by omega)
    show Lshuntlaw02_long_0s k (Lshuntlaw02_long_0 k n) _ _ _ _ = _
    unfold Lshuntlaw02_long_0s
    simp (config := { implicitDefEqProofs := false, maxSteps := 2000000 }) (disch := omega) only [ps, ↓reduceIte, reduceCtorEq, Int.reduceLT, Int.reduceLE, Int.reduceEq, Nat.reduceLT, Nat.reduceLeDiff, Nat.reduceEqDiff, Int.reduceNeg, eitherK, hr, h1, hw]
theorem long2_ev (l : List (Bool × List Int)) (hl : l.length ≤ 1000) : Rn (fun k => Fshuntlaw02_long k l) (decide (160 < sumL l)) := by
  refine Rn.up (f := fun k => Fshuntlaw02_long k l) (Rn.eq (l.length + 1) fun k hk => ?_)
  show bshuntlaw02_long k l = _
  unfold bshuntlaw02_long
  have h : Lshuntlaw02_long_0 k k 0 l l.length (0 : Int) = _ := long_loop l hl l.length 0 0 (by omega) (by omega) k k (by omega)
  rw [h]
  simp
end Go.Proofs.YtjgpegpjmkgkkaaGreat.Am

/- Every sum, difference, product, quotient and comparison of fractions is the document's: the plain statement. -/
set_option linter.unusedVariables false
set_option linter.unusedSimpArgs false
set_option maxRecDepth 10000
namespace Go.Proofs.YtjgpegpjmkgkkaaGreat.Am
open Go
set_option maxHeartbeats 4000000 in
theorem pure_RatCalls (a b : RT) (wa : Wfd (.pr (.pr .bool (.sl (.int .u32))) (.pr .bool (.sl (.int .u32)))) a) (wb : Wfd (.pr (.pr .bool (.sl (.int .u32))) (.pr .bool (.sl (.int .u32)))) b) :
    ∃ k, Fshuntlaw02_RatCalls k a.1.1 a.1.2 a.2.1 a.2.2 b.1.1 b.1.2 b.2.1 b.2.2 = some true := by
  have ga := rt_good wa
  have gb := rt_good wb
  obtain ⟨⟨a0, a1⟩, a2, a3⟩ := a
  obtain ⟨⟨b0, b1⟩, b2, b3⟩ := b
  refine Rn.get (Rn.up (f := fun k => Fshuntlaw02_RatCalls k a0 a1 a2 a3 b0 b1 b2 b3) ?_)
  show Rn (fun k => bshuntlaw02_RatCalls k a0 a1 a2 a3 b0 b1 b2 b3) _
  unfold bshuntlaw02_RatCalls
  refine Rn.bind awake_ev (Rn.f (by simp) ?_)
  refine Rn.bind (f := fun k => Fshuntlaw02_long k (List.take 4 [(a0, a1), (a2, a3), (b0, b1), (b2, b3)])) (long2_ev _ (by simp)) ?_
  by_cases hs : 160 < sumL (List.take 4 [(a0, a1), (a2, a3), (b0, b1), (b2, b3)])
  · exact Rn.t (decide_eq_true hs) (Rn.pure _)
  refine Rn.f (by simpa using hs) ?_
  have hs' : sumL [(a0, a1), (a2, a3), (b0, b1), (b2, b3)] ≤ 160 := Int.not_lt.1 hs
  simp only [sumL] at hs'
  have la1 : a1.length ≤ 160 := by omega
  have la3 : a3.length ≤ 160 := by omega
  have lb1 : b1.length ≤ 160 := by omega
  have lb3 : b3.length ≤ 160 := by omega
  have H1 : 0 + a1.length ≤ (mkz a1).length := by simp [mkz]
  have H3 : 0 + a3.length ≤ (mkz a3).length := by simp [mkz]
  have K1 : 0 + b1.length ≤ (mkz b1).length := by simp [mkz]
  have K3 : 0 + b3.length ≤ (mkz b3).length := by simp [mkz]
  have T1 : List.take a1.length (mkz a1) = a1 := List.take_left
  have T3 : List.take a3.length (mkz a3) = a3 := List.take_left
  have U1 : List.take b1.length (mkz b1) = b1 := List.take_left
  have U3 : List.take b3.length (mkz b3) = b3 := List.take_left
  obtain ⟨sA, pA, tA, rA, eA, sS, pS, tS, rS, eS, sM, pM, tM, rM, eM, sD, pD, tD, rD, eD, c, eC, ⟨A1, A2, A3, A4⟩, ⟨S1, S2, S3, S4⟩, ⟨M1, M2, M3, M4⟩, ⟨D1, D2, D3, D4⟩, C1, C2⟩ := calls_all ga gb
  have A1' : Rn (fun k => Frat_Add k a0 (List.take a1.length (mkz a1)) a2 (List.take a3.length (mkz a3)) b0 (List.take b1.length (mkz b1)) b2 (List.take b3.length (mkz b3))) (sA, pA.length, tA, rA.length, eA, pA, rA) := by rw [T1, T3, U1, U3]; exact A1
  have S1' : Rn (fun k => Frat_Sub k a0 (List.take a1.length (mkz a1)) a2 (List.take a3.length (mkz a3)) b0 (List.take b1.length (mkz b1)) b2 (List.take b3.length (mkz b3))) (sS, pS, tS, rS, eS) := by rw [T1, T3, U1, U3]; exact S1
  have M1' : Rn (fun k => Frat_Mul k a0 (List.take a1.length (mkz a1)) a2 (List.take a3.length (mkz a3)) b0 (List.take b1.length (mkz b1)) b2 (List.take b3.length (mkz b3))) (sM, pM, tM, rM, eM) := by rw [T1, T3, U1, U3]; exact M1
  have D1' : Rn (fun k => Frat_Div k a0 (List.take a1.length (mkz a1)) a2 (List.take a3.length (mkz a3)) b0 (List.take b1.length (mkz b1)) b2 (List.take b3.length (mkz b3))) (sD, pD, tD, rD, eD) := by rw [T1, T3, U1, U3]; exact D1
  have C1' : Rn (fun k => Frat_Cmp k a0 (List.take a1.length (mkz a1)) a2 (List.take a3.length (mkz a3)) b0 (List.take b1.length (mkz b1)) b2 (List.take b3.length (mkz b3))) (c, eC) := by rw [T1, T3, U1, U3]; exact C1
  clear A1 S1 M1 D1 C1 ga gb wa wb hs hs'
  refine Rn.bind (lent2_ev a0 a2 a1 a3 (by omega) (by omega)) (Rn.bind (lent2_ev b0 b2 b1 b3 (by omega) (by omega)) ?_)
  refine Rn.t H1 (Rn.t H3 (Rn.t K1 (Rn.t K3 (Rn.bind A1' ?_))))
  refine Rn.t H1 (Rn.t H3 (Rn.t K1 (Rn.t K3 (Rn.bind S1' ?_))))
  refine Rn.t H1 (Rn.t H3 (Rn.t K1 (Rn.t K3 (Rn.bind M1' ?_))))
  refine Rn.t H1 (Rn.t H3 (Rn.t K1 (Rn.t K3 (Rn.bind D1' ?_))))
  refine Rn.t H1 (Rn.t H3 (Rn.t K1 (Rn.t K3 (Rn.bind C1' ?_))))
  refine Rn.bind A2 (Rn.bind S2 (Rn.bind M2 (Rn.bind D2 (Rn.bind C2 ?_))))
  have EA : Rn (fun k => Fshuntlaw02_same k sA (List.take pA.length pA) tA (List.take rA.length rA) sA pA tA rA) true := by rw [List.take_length, List.take_length]; exact same2_t sA tA pA rA (by omega) (by omega)
  have PA : 0 + pA.length ≤ pA.length := by omega
  have RA' : 0 + rA.length ≤ rA.length := by omega
  refine Rn.t PA (Rn.t RA' (Rn.bind EA (Rn.t (by simp) ?_)))
  refine Rn.bind (same2_t sS tS pS rS (by omega) (by omega)) (Rn.t (by simp) ?_)
  refine Rn.bind (same2_t sM tM pM rM (by omega) (by omega)) (Rn.t (by simp) ?_)
  refine Rn.bind (same2_t sD tD pD rD (by omega) (by omega)) (Rn.t (by simp) ?_)
  refine Rn.t (by simp) (Rn.t (by simp) (Rn.t (by simp) (Rn.t (by simp) (Rn.t (by simp) (Rn.f (by simp) ?_)))))
  refine Rn.t H1 (Rn.t H3 (Rn.t K1 (Rn.t K3 (Rn.bind A1' ?_))))
  have L0 : Rn (fun k => Lshuntlaw02_RatCalls_0 k k (pA.length : Int) (0 : Int) a0 a1 a2 a3 b0 b1 b2 b3 a0 a1.length a2 a3.length b0 b1.length b2 b3.length sA pA.length tA rA.length sA pA tA rA sA pA.length tA rA.length (mkz a1) (mkz a3) (mkz b1) (mkz b3) pA rA pA rA) (a0, a1, a2, a3, b0, b1, b2, b3, a0, a1.length, a2, a3.length, b0, b1.length, b2, b3.length, sA, pA.length, tA, rA.length, sA, pA, tA, rA, sA, pA.length, tA, rA.length, (mkz a1), (mkz a3), (mkz b1), (mkz b3), (List.replicate pA.length 7), rA, pA, rA) := Rn.eq (pA.length + 1) fun k hk => by
    have h := sevens a0 a1 a2 a3 b0 b1 b2 b3 a0 a1.length a2 a3.length b0 b1.length b2 b3.length sA pA.length tA rA.length sA pA tA rA sA pA.length tA rA.length (mkz a1) (mkz a3) (mkz b1) (mkz b3) rA pA rA pA.length (by omega) rfl pA.length 0 k k pA (by omega) (by omega) rfl
    rw [List.take_zero, List.nil_append] at h
    exact h
  have L2 : Rn (fun k => Lshuntlaw02_RatCalls_2 k k (rA.length : Int) (0 : Int) a0 a1 a2 a3 b0 b1 b2 b3 a0 a1.length a2 a3.length b0 b1.length b2 b3.length sA pA.length tA rA.length sA pA tA rA sA pA.length tA rA.length (mkz a1) (mkz a3) (mkz b1) (mkz b3) (List.replicate pA.length 7) rA pA rA) (a0, a1, a2, a3, b0, b1, b2, b3, a0, a1.length, a2, a3.length, b0, b1.length, b2, b3.length, sA, pA.length, tA, rA.length, sA, pA, tA, rA, sA, pA.length, tA, rA.length, (mkz a1), (mkz a3), (mkz b1), (mkz b3), (List.replicate pA.length 7), (List.replicate rA.length 8), pA, rA) := Rn.eq (rA.length + 1) fun k hk => by
    have h := eights a0 a1 a2 a3 b0 b1 b2 b3 a0 a1.length a2 a3.length b0 b1.length b2 b3.length sA pA.length tA rA.length sA pA tA rA sA pA.length tA rA.length (mkz a1) (mkz a3) (mkz b1) (mkz b3) (List.replicate pA.length 7) pA rA rA.length (by omega) rfl rA.length 0 k k rA (by omega) (by omega) rfl
    rw [List.take_zero, List.nil_append] at h
    exact h
  refine Rn.bind L0 (Rn.bind L2 ?_)
  refine Rn.t PA (Rn.t RA' (Rn.bind EA (Rn.t rfl ?_)))
  refine Rn.bind (wholeZ_ev a0 a2 a1 a3 (by omega) (by omega)) (Rn.t rfl ?_)
  exact Rn.bind (wholeZ_ev b0 b2 b1 b3 (by omega) (by omega)) (Rn.pure _)
end Go.Proofs.YtjgpegpjmkgkkaaGreat.Am

/- The law RatCallsUpto returns true for every input, and its arguments read as they did. -/
namespace Go.Proofs.YtjgpegpjmkgkkaaGreat.ratCallsUpto
open Go.ChangeShapes Go.WideShapes Go.ChangeAt Go.RowKit
open Go.Proofs.YtjgpegpjmkgkkaaGreat.Am
set_option linter.unusedVariables false
theorem own : ownKnob Tryz.prog.godebug = none := by kernel_rfl
theorem laidOut : laidOutB Tryz.prog = true := by kernel_rfl
set_option maxRecDepth 100000 in
theorem lifted (os : Os) (started : os.Started) (H : Type) (enc : TypeId × Value → H) (F : Stop.Interp) :
    ReturnsInHanded {} Tryz.checked os 3 .any ((Rows.OpenSpec.upto Rows.ratCallsSpec).pre6 enc Tryz.prog Tryz.f3 Rows.ratCallsUptoRow.domain false) (((Rows.OpenSpec.upto Rows.ratCallsSpec).at F).post enc Tryz.prog Tryz.f3 false true false false) := by
  refine returnsInHanded_of_cond (C := Tryz.checked) (s := Rows.OpenSpec.upto Rows.ratCallsSpec) (k := Rows.uptoSmall) rfl own started (by kernel_rfl) Tryz.func3
    (OpenSpec.witness (enc := enc) (C := Tryz.checked) (s := Rows.OpenSpec.upto Rows.ratCallsSpec) (k := Rows.uptoSmall) rfl false ⟨#[], #[.agg #[.bool false, .slice none 0 0, .bool false, .slice none 0 0], .agg #[.bool false, .slice none 0 0, .bool false, .slice none 0 0]], []⟩ 8 (by kernel_rfl) (by kernel_rfl) (by kernel_rfl)
      (x := ([.agg [.agg [.lit (.bool false), .nil], .agg [.lit (.bool false), .nil]], .agg [.agg [.lit (.bool false), .nil], .agg [.lit (.bool false), .nil]]], [], [])) (by kernel_rfl) rfl (by kernel_rfl)) ?_
  intro W base args ds gs before hval0 hW _ _ _
  have hval : ∀ (j : Nat) t v, Tryz.f3.params[j]? = some t → args[j]? = some v → Value.okWide Tryz.prog W .any base t v := hval0
  have hW' := hW
  obtain ⟨p, q, hA0, hV, rfl, hfz, hnd⟩ := hW
  have hA : DataW.TrodAll enc Tryz.prog W 0 (fun _ => true) true Tryz.f3.params.toList args.toList ds p := hA0
  rw [Tryz.params3] at hA hval
  obtain ⟨v0, vs0, d0, ds0, p0, q0, hargs, rfl, rfl, h0, r0⟩ := trodAll_cons hA
  obtain ⟨v1, vs1, d1, ds1, p1, q1, rfl, rfl, rfl, h1, r1⟩ := trodAll_cons r0
  obtain ⟨rfl, rfl, rfl⟩ := trodAll_nil r1
  obtain rfl : args = #[v0, v1] := by cases args; simp_all
  obtain ⟨rfl, rfl⟩ := trodVars_none hV
  have lt0 : ∀ x ∈ p0, x.block < W.heap.size := by obtain ⟨m, hm⟩ := h0; exact DataW.trod_lt m _ _ _ hm
  obtain ⟨y0, rv0, nm0, wf0⟩ := open_cd (d := 9) (c := (.pr (.pr .bool (.sl (.int .u32))) (.pr .bool (.sl (.int .u32))))) true (by kernel_rfl) (by kernel_rfl) (by kernel_rfl) (hval 0 26 v0 rfl rfl) h0
  have lt1 : ∀ x ∈ p1, x.block < W.heap.size := by obtain ⟨m, hm⟩ := h1; exact DataW.trod_lt m _ _ _ hm
  obtain ⟨y1, rv1, nm1, wf1⟩ := open_cd (d := 9) (c := (.pr (.pr .bool (.sl (.int .u32))) (.pr .bool (.sl (.int .u32))))) true (by kernel_rfl) (by kernel_rfl) (by kernel_rfl) (hval 1 26 v1 rfl rfl) h1
  clear hA0 hval0
  obtain ⟨k, hk⟩ := pure_RatCalls y0 y1 wf0 wf1
  refine (law_inst cfg_ok (okshuntlaw02_RatCalls k) (x := (y0.1.1, y0.1.2, y0.2.1, y0.2.2, y1.1.1, y1.1.2, y1.2.1, y1.2.2)) (y := true) hk rfl (args := [argV true (.pr (.pr .bool (.sl (.int .u32))) (.pr .bool (.sl (.int .u32)))) y0, argV true (.pr (.pr .bool (.sl (.int .u32))) (.pr .bool (.sl (.int .u32)))) y1]) rfl (rvs_cons rv0 (rvs_cons rv1 rvs_nil)) (names_cons nm0 (names_cons nm1 rfl))).mono fun e W' ⟨he, bel⟩ => ?_
  subst he
  exact ⟨_, rfl, _, _, _, [], _, [], hW', trodAll_mk1 (shut_bool Tryz.underlying4 _), (trodAll_cons_mk (Below.trod laidOut (by kernel_rfl) (of_decide_eq_true (by kernel_rfl)) h0 bel lt0) (trodAll_cons_mk (Below.trod laidOut (by kernel_rfl) (of_decide_eq_true (by kernel_rfl)) h1 bel lt1) trodAll_mk0)), rfl, bel.frame _, fun h => by cases h⟩
theorem over : Rows.ratCallsUptoRow.holds Tryz.pinned (Rows.OpenSpec.upto Rows.ratCallsSpec) :=
  OpenClaim.holds_of_cond 3 Tryz.f3 rfl rfl rfl rfl rfl rfl rfl ⟨rfl, rfl, rfl, rfl, rfl⟩ rfl rfl rfl rfl rfl (by kernel_rfl) Tryz.func3 (by kernel_rfl)
    (of_decide_eq_true (by kernel_rfl)) (by unfold Func.isWrapper; first | (rw [if_pos (by decide +kernel)]; kernel_rfl) | (rw [if_neg (by decide +kernel)]; exact ⟨rfl, rfl⟩))
    (fun os started H enc _ F => lifted os started H enc F)
theorem proved : Rows.RatCallsUptoSaid := over
#print axioms proved
end Go.Proofs.YtjgpegpjmkgkkaaGreat.ratCallsUpto
namespace Go.Proofs.YtjgpegpjmkgkkaaGreat
/-- The row, under a short name, for the claim. -/
theorem ratCallsUpto_holds : Rows.RatCallsUptoSaid := ratCallsUpto.proved
end Go.Proofs.YtjgpegpjmkgkkaaGreat
