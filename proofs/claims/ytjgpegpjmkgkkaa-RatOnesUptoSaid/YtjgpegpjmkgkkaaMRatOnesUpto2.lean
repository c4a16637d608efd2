/- The law RatOnesUpto returns true for every input, and its arguments read as they did. -/
import Derived.Test.YtjgpegpjmkgkkaaMRatOnesUpto1
import Derived.Test.YtjgpegpjmkgkkaaRows
import Derived.WalkKit
import Derived.ProofKit
import Derived.OpenShut
import Derived.ShutString
import Derived.ChangeOld
import Derived.Below
import Derived.SizedLaws
import Derived.Carry
import Derived.JoinedCond

set_option linter.unusedVariables false
set_option linter.unusedSimpArgs false
set_option maxRecDepth 10000
namespace Go.Proofs.Ytjgpegpjmkgkkaa.Am
open Go

theorem U2 (i : Nat) : U ^ (2 * i) = W ^ i := by rw [Int.pow_mul]; rfl
theorem take_loop (k : Nat) (a0 : Bool) (a1 : List Int) (hla : a1.length ≤ 1000000000) (ha : Dg W a1) :
    ∀ (d i n : Nat) (ds : List Int), i + d = a1.length → d < n → ds.length = 2 * i → Dg U ds → V U ds = V W (a1.take i) →
    ∃ ds', Lshuntref01_Take_0 k n (2 * i) i a0 a1 false 0 ds [] = some (2 * a1.length, a0, a1, false, 0, ds', []) ∧ Dg U ds' ∧ ds'.length = 2 * a1.length ∧ V U ds' = V W a1 := by
  intro d
  induction d with
  | zero =>
    intro i n ds hi hn hl hd e
    obtain ⟨n, rfl⟩ : ∃ m, n = m + 1 := ⟨n - 1, by omega⟩
    have hia : i = a1.length := by omega
    subst hia
    refine ⟨ds, ?_, hd, hl, by rw [e, List.take_length]⟩
    show Lshuntref01_Take_0s k (Lshuntref01_Take_0 k n) _ _ _ _ _ _ _ _ = _
    unfold Lshuntref01_Take_0s
    simp (config := { implicitDefEqProofs := false, maxSteps := 2000000 }) (disch := omega) only [ps, ↓reduceIte, reduceCtorEq, Int.reduceLT, Int.reduceLE, Int.reduceEq, Nat.reduceLT, Nat.reduceLeDiff, Nat.reduceEqDiff, Int.reduceNeg, eitherK]
  | succ d ih =>
    intro i n ds hi hn hl hd e
    obtain ⟨n, rfl⟩ : ∃ m, n = m + 1 := ⟨n - 1, by omega⟩
    obtain ⟨x, hx⟩ := get_of (show i < a1.length by omega)
    have hxb := ha.get hx
    have h1 : ((i : Int) + 1) = ((i + 1 : Nat) : Int) := rfl
    have ht : ds.take (2 * i) = ds := List.take_of_length_le (by omega)
    have hdm := Int.emod_add_mul_ediv x 65536
    unfold W at hxb
    have hu : 0 ≤ x / 65536 ∧ x / 65536 < 65536 := by omega
    obtain ⟨ds', q1, q2⟩ := ih (i + 1) n (ds ++ [x % 65536, x / 65536]) (by omega) (by omega) (by simp [hl]; omega) (hd.append (Dg.cons (by unfold U; omega) (Dg.cons hu Dg.nil))) (by
      rw [V_append, V_take_succ hx, hl, U2, e]
      simp only [V]
      unfold U
      grind)
    refine ⟨ds', ?_, q2⟩
    rw [← q1]
    show Lshuntref01_Take_0s k (Lshuntref01_Take_0 k n) _ _ _ _ _ _ _ _ = _
    unfold Lshuntref01_Take_0s
    have h2 : 2 * i + 2 = 2 * (i + 1) := by omega
    simp (config := { implicitDefEqProofs := false, maxSteps := 2000000 }) (disch := omega) only [ps, ↓reduceIte, reduceCtorEq, Int.reduceLT, Int.reduceLE, Int.reduceEq, Nat.reduceLT, Nat.reduceLeDiff, Nat.reduceEqDiff, Int.reduceNeg, eitherK, hx, h1, hl, ht, List.take_succ_cons, List.length_cons, tdiv_pos, tmod_pos, h2]
theorem rTake_ev (a0 : Bool) (a1 : List Int) (hla : a1.length ≤ 1000000000) {z : Int} (hn : Nm W a0 a1 z) : ∃ l, Rn (fun k => Fshuntref01_Take k a0 a1) (a0, l) ∧ Nm U a0 l z ∧ l.length ≤ 2 * a1.length := by
  have main := Cn.uniq (B := U) (v := V W a1) (L := 2 * a1.length) (f := fun k => (Fshuntref01_Take (k + 1) a0 a1).map (·.2)) (by decide) (2 * a1.length + 3) fun k hk => by
    obtain ⟨ds, q1, q2, q3, q4⟩ := take_loop k a0 a1 hla hn.c.1 a1.length 0 k [] (by omega) (by omega) rfl Dg.nil (by simp [V])
    have := tl_len ds
    refine ⟨tl ds, ?_, Cn.of q2, by rw [V_tl, q4], by omega⟩
    have q1' : Lshuntref01_Take_0 k k 0 0 a0 a1 false 0 [] [] = _ := q1
    have ht := rtrim_eq ds (by omega) k (by omega)
    rw [q3] at ht
    show (bshuntref01_Take k a0 a1).map (·.2) = _
    unfold bshuntref01_Take
    rw [q1', Option.bind_some]
    simp only []
    rw [ht, Option.bind_some]
    cases a0
    · simp (config := { implicitDefEqProofs := false, maxSteps := 2000000 }) (disch := omega) only [ps, ↓reduceIte, reduceCtorEq, Int.reduceLT, Int.reduceLE, Int.reduceEq, Nat.reduceLT, Nat.reduceLeDiff, Nat.reduceEqDiff, Int.reduceNeg, eitherK]
      rw [tl_take]; rfl
    · simp (config := { implicitDefEqProofs := false, maxSteps := 2000000 }) (disch := omega) only [ps, ↓reduceIte, reduceCtorEq, Int.reduceLT, Int.reduceLE, Int.reduceEq, Nat.reduceLT, Nat.reduceLeDiff, Nat.reduceEqDiff, Int.reduceNeg, eitherK]
      rw [tl_take]; rfl
  obtain ⟨l, h1, h2, h3, h4⟩ := main
  have hzero : l = [] ↔ a1 = [] := by rw [h2.nil_iff (by decide), h3, hn.c.nil_iff (by decide)]
  have hnm : Nm U a0 l z := ⟨h2, fun hs h0 => hn.sg hs (hzero.1 h0), by rw [h3]; exact hn.z⟩
  refine ⟨l, ?_, hnm, h4⟩
  obtain ⟨K, h1⟩ := h1
  refine Rn.up (f := fun k => Fshuntref01_Take k a0 a1) (Rn.eq (max K (2 * a1.length + 3)) fun k hk => ?_)
  have e := h1 k (by omega)
  obtain ⟨ds, q1, q2, q3, q4⟩ := take_loop k a0 a1 hla hn.c.1 a1.length 0 k [] (by omega) (by omega) rfl Dg.nil (by simp [V])
  have q1' : Lshuntref01_Take_0 k k 0 0 a0 a1 false 0 [] [] = _ := q1
  have ht := rtrim_eq ds (by omega) k (by omega)
  rw [q3] at ht
  have hl : tl ds = l := Cn.ext (B := U) (by decide) (Cn.of q2) h2 (by rw [V_tl, q4, h3])
  have := tl_len ds
  show bshuntref01_Take k a0 a1 = _
  unfold bshuntref01_Take
  rw [q1', Option.bind_some]
  simp only []
  rw [ht, Option.bind_some]
  cases a0
  · simp (config := { implicitDefEqProofs := false, maxSteps := 2000000 }) (disch := omega) only [ps, ↓reduceIte, reduceCtorEq, Int.reduceLT, Int.reduceLE, Int.reduceEq, Nat.reduceLT, Nat.reduceLeDiff, Nat.reduceEqDiff, Int.reduceNeg, eitherK]
    rw [tl_take, hl]
  · have hne : l ≠ [] := fun h0 => hn.sg rfl (hzero.1 h0)
    have hpos : 0 < l.length := by cases l with
      | nil => exact absurd rfl hne
      | cons _ _ => simp
    simp (config := { implicitDefEqProofs := false, maxSteps := 2000000 }) (disch := omega) only [ps, ↓reduceIte, reduceCtorEq, Int.reduceLT, Int.reduceLE, Int.reduceEq, Nat.reduceLT, Nat.reduceLeDiff, Nat.reduceEqDiff, Int.reduceNeg, eitherK, hl]
    have t := tl_take ds
    rw [hl] at t
    rw [t]; rfl

/-- Great enough for its length: in the one form. -/
theorem Cn.of_ge {B : Int} (hB : 1 < B) {l : List Int} (h : Dg B l) (hg : l ≠ [] → B ^ (l.length - 1) ≤ V B l) : Cn B l := by
  refine ⟨h, (Cn.last h).2 ?_⟩
  rcases List.eq_nil_or_concat l with rfl | ⟨m, x, rfl⟩
  · exact .inl rfl
  · rw [List.concat_eq_append] at *
    refine .inr ⟨m, x, rfl, fun h0 => ?_⟩
    subst h0
    have := hg (by simp)
    rw [V_snoc, Int.mul_zero, Int.add_zero] at this
    have h2 := V_lt (B := B) (by omega) (fun y hy => h y (by simp [hy]) : Dg B m)
    simp at this
    omega
theorem give_loop (k : Nat) (a0 : Bool) (a1 : List Int) (hla : a1.length ≤ 1000000000) (ha : Dg U a1) :
    ∀ (d j n : Nat) (m : List Int), a1.length ≤ 2 * (j + d) → 2 * j ≤ a1.length + 1 → d < n → m.length = j → Dg W m → V W m = V U (a1.take (2 * j)) →
    ∃ m', Lshuntref01_Give_0 k n (2 * j : Nat) a0 a1 false 0 a0 j [] m = some (a0, a1, false, 0, a0, m'.length, [], m') ∧ Dg W m' ∧ m'.length = (a1.length + 1) / 2 ∧ V W m' = V U a1 := by
  intro d
  induction d with
  | zero =>
    intro j n m hj hj2 hn hl hd e
    obtain ⟨n, rfl⟩ : ∃ m, n = m + 1 := ⟨n - 1, by omega⟩
    refine ⟨m, ?_, hd, by omega, by rw [e, List.take_of_length_le (by omega)]⟩
    show Lshuntref01_Give_0s k (Lshuntref01_Give_0 k n) _ _ _ _ _ _ _ _ _ = _
    unfold Lshuntref01_Give_0s
    simp (config := { implicitDefEqProofs := false, maxSteps := 2000000 }) (disch := omega) only [ps, ↓reduceIte, reduceCtorEq, Int.reduceLT, Int.reduceLE, Int.reduceEq, Nat.reduceLT, Nat.reduceLeDiff, Nat.reduceEqDiff, Int.reduceNeg, eitherK]
    rw [hl]
  | succ d ih =>
    intro j n m hj hj2 hn hl hd e
    obtain ⟨n, rfl⟩ : ∃ m, n = m + 1 := ⟨n - 1, by omega⟩
    by_cases h0 : 2 * j < a1.length
    · obtain ⟨x, hx⟩ := get_of h0
      have hxb := ha.get hx
      unfold U at hxb
      have ht : m.take j = m := List.take_of_length_le (by omega)
      have h3 : (((2 * j : Nat) : Int) + 2) = ((2 * (j + 1) : Nat) : Int) := by omega
      have t1 := V_take_succ (B := U) hx
      have t2 := V_take_getD (B := U) a1 (2 * j + 1)
      have hyb := ha.getD (B := U) (by decide) (2 * j + 1)
      generalize hy : a1[2 * j + 1]?.getD 0 = y at t2 hyb
      unfold U at hyb
      obtain ⟨m', q1, q2⟩ := ih (j + 1) n (m ++ [x + y * 65536]) (by omega) (by omega) (by omega) (by simp [hl]) (hd.snoc (by unfold W; omega)) (by
        rw [V_snoc, hl, show 2 * (j + 1) = 2 * j + 1 + 1 by omega, t2, t1, e, ← U2, Int.pow_succ]
        unfold U
        grind)
      refine ⟨m', ?_, q2⟩
      rw [← q1]
      show Lshuntref01_Give_0s k (Lshuntref01_Give_0 k n) _ _ _ _ _ _ _ _ _ = _
      unfold Lshuntref01_Give_0s
      by_cases h4 : 2 * j + 1 < a1.length
      · have hy' : a1[2 * j + 1]? = some y := by obtain ⟨z, hz⟩ := get_of h4; rw [hz] at hy ⊢; simpa using hy
        have h5 : (((2 * j : Nat) : Int) + 1) = ((2 * j + 1 : Nat) : Int) := rfl
        simp (config := { implicitDefEqProofs := false, maxSteps := 2000000 }) (disch := omega) only [ps, ↓reduceIte, reduceCtorEq, Int.reduceLT, Int.reduceLE, Int.reduceEq, Nat.reduceLT, Nat.reduceLeDiff, Nat.reduceEqDiff, Int.reduceNeg, eitherK, hx, hy', h5, h3, hl, ht, List.take_succ_cons, List.length_cons]
      · have hy' : y = 0 := by rw [← hy, List.getElem?_eq_none (by omega)]; rfl
        subst hy'
        simp (config := { implicitDefEqProofs := false, maxSteps := 2000000 }) (disch := omega) only [ps, ↓reduceIte, reduceCtorEq, Int.reduceLT, Int.reduceLE, Int.reduceEq, Nat.reduceLT, Nat.reduceLeDiff, Nat.reduceEqDiff, Int.reduceNeg, eitherK, hx, h3, hl, ht, List.take_succ_cons, List.length_cons, Int.zero_mul, Int.add_zero]
    · refine ⟨m, ?_, hd, by omega, by rw [e, List.take_of_length_le (by omega)]⟩
      show Lshuntref01_Give_0s k (Lshuntref01_Give_0 k n) _ _ _ _ _ _ _ _ _ = _
      unfold Lshuntref01_Give_0s
      simp (config := { implicitDefEqProofs := false, maxSteps := 2000000 }) (disch := omega) only [ps, ↓reduceIte, reduceCtorEq, Int.reduceLT, Int.reduceLE, Int.reduceEq, Nat.reduceLT, Nat.reduceLeDiff, Nat.reduceEqDiff, Int.reduceNeg, eitherK]
      rw [hl]
theorem rGive_ev (a0 : Bool) (a1 : List Int) (hla : a1.length ≤ 1000000000) {z : Int} (hn : Nm U a0 a1 z) : ∃ m, Rn (fun k => Fshuntref01_Give k a0 a1) (a0, m) ∧ Nm W a0 m z ∧ m.length = (a1.length + 1) / 2 := by
  have cn : ∀ m, Dg W m → m.length = (a1.length + 1) / 2 → V W m = V U a1 → Cn W m := by
    intro m h1 h2 h3
    refine Cn.of_ge (by decide) h1 fun h0 => ?_
    have hl0 : m.length ≠ 0 := fun e => h0 (List.length_eq_zero_iff.1 e)
    have g := hn.c.ge (B := U) (by decide) (fun e => hl0 (by rw [h2, e]; rfl))
    have p := pow_mono (B := U) (by decide) (show 2 * (m.length - 1) ≤ a1.length - 1 by omega)
    rw [U2] at p
    omega
  obtain ⟨m0, q1, q2, q3, q4⟩ := give_loop (a1.length + 1) a0 a1 hla hn.c.1 a1.length 0 (a1.length + 1) [] (by omega) (by omega) (by omega) rfl Dg.nil (by simp [V])
  have c0 := cn m0 q2 q3 q4
  refine ⟨m0, Rn.up (f := fun k => Fshuntref01_Give k a0 a1) (Rn.eq (a1.length + 1) fun k hk => ?_), ⟨c0, fun hs h0 => hn.sg hs ?_, by rw [q4]; exact hn.z⟩, q3⟩
  · obtain ⟨m, r1, r2, r3, r4⟩ := give_loop k a0 a1 hla hn.c.1 a1.length 0 k [] (by omega) (by omega) (by omega) rfl Dg.nil (by simp [V])
    have hm : m = m0 := Cn.ext (B := W) (by decide) (cn m r2 r3 r4) c0 (by rw [r4, q4])
    subst hm
    have r1' : Lshuntref01_Give_0 k k 0 a0 a1 false 0 a0 0 [] [] = _ := r1
    show bshuntref01_Give k a0 a1 = _
    unfold bshuntref01_Give
    rw [r1', Option.bind_some]
    simp (config := { implicitDefEqProofs := false, maxSteps := 2000000 }) (disch := omega) only [ps, ↓reduceIte, reduceCtorEq, Int.reduceLT, Int.reduceLE, Int.reduceEq, Nat.reduceLT, Nat.reduceLeDiff, Nat.reduceEqDiff, Int.reduceNeg, eitherK, List.take_length]
  · rw [h0] at q4
    exact (hn.c.nil_iff (B := U) (by decide)).2 (by rw [← q4]; rfl)
theorem times_inner (k : Nat) (a0 b0 : Bool) (a1 b1 : List Int) (hb : Dg U b1) (i : Nat) (a : Int) (hai : a1[i]? = some a) (ha : 0 ≤ a ∧ a < U) (n12 : Nat) (hn12 : n12 ≤ 2000000000) (hi : i + b1.length < n12) :
    ∀ (d j n : Nat) (carry : Int) (ds : List Int), j + d = b1.length → d < n → 0 ≤ carry ∧ carry < U → ds.length = n12 → Dg U ds →
    ∃ carry' ds', Lshuntref01_Times_2 k n n12 i carry j a0 a1 b0 b1 false 0 ds [] = some (n12, (i : Int), carry', a0, a1, b0, b1, false, 0, ds', []) ∧ (0 ≤ carry' ∧ carry' < U) ∧ ds'.length = n12 ∧ Dg U ds' ∧
      V U ds' + carry' * U ^ (i + b1.length) = V U ds + carry * U ^ (i + j) + a * U ^ (i + j) * V U (b1.drop j) ∧ ∀ p, i + b1.length ≤ p → ds'[p]? = ds[p]? := by
  intro d
  induction d with
  | zero =>
    intro j n carry ds hj hn hc hl hd
    obtain ⟨n, rfl⟩ : ∃ m, n = m + 1 := ⟨n - 1, by omega⟩
    have : j = b1.length := by omega
    subst this
    refine ⟨carry, ds, ?_, hc, hl, hd, ?_, fun p _ => rfl⟩
    · show Lshuntref01_Times_2s k (Lshuntref01_Times_2 k n) _ _ _ _ _ _ _ _ _ _ _ _ = _
      unfold Lshuntref01_Times_2s
      simp (config := { implicitDefEqProofs := false, maxSteps := 2000000 }) (disch := omega) only [ps, ↓reduceIte, reduceCtorEq, Int.reduceLT, Int.reduceLE, Int.reduceEq, Nat.reduceLT, Nat.reduceLeDiff, Nat.reduceEqDiff, Int.reduceNeg, eitherK]
    · rw [List.drop_length]; simp [V]
  | succ d ih =>
    intro j n carry ds hj hn hc hl hd
    obtain ⟨n, rfl⟩ : ∃ m, n = m + 1 := ⟨n - 1, by omega⟩
    obtain ⟨b, hbj⟩ := get_of (show j < b1.length by omega)
    obtain ⟨o, ho⟩ := get_of (show i + j < ds.length by omega)
    have hbb := hb.get hbj
    have hob := hd.get ho
    have h1 : ((j : Int) + 1) = ((j + 1 : Nat) : Int) := rfl
    have h2 : ((i : Int) + (j : Int)) = ((i + j : Nat) : Int) := rfl
    unfold U at ha hbb hob hc
    have hm1 := Int.mul_nonneg ha.1 hbb.1
    have hm2 : a * b ≤ 65535 * b := Int.mul_le_mul_of_nonneg_right (by omega) hbb.1
    have hdm := Int.emod_add_mul_ediv (o + a * b + carry) U
    obtain ⟨c', o', q1, q2, q3, q4, q5, q6⟩ := ih (j + 1) n ((o + a * b + carry) / U) (ds.set (i + j) ((o + a * b + carry) % U)) (by omega) (by omega) (by unfold U; omega) (by simpa using hl) (hd.set _ (by unfold U; omega))
    refine ⟨c', o', ?_, q2, q3, q4, ?_, fun p hp => ?_⟩
    · rw [← q1]
      show Lshuntref01_Times_2s k (Lshuntref01_Times_2 k n) _ _ _ _ _ _ _ _ _ _ _ _ = _
      unfold Lshuntref01_Times_2s
      simp (config := { implicitDefEqProofs := false, maxSteps := 2000000 }) (disch := omega) only [ps, ↓reduceIte, reduceCtorEq, Int.reduceLT, Int.reduceLE, Int.reduceEq, Nat.reduceLT, Nat.reduceLeDiff, Nat.reduceEqDiff, Int.reduceNeg, eitherK, hai, hbj, h1, h2, ho, tdiv_pos, tmod_pos]
    · rw [q5, V_set _ ho, V_drop hbj, ← Nat.add_assoc, Int.pow_succ]
      grind
    · rw [q6 p hp, List.getElem?_set_ne (by omega)]
theorem times_outer (k : Nat) (a0 b0 : Bool) (a1 b1 : List Int) (ha : Dg U a1) (hb : Dg U b1) (hla : a1.length ≤ 1000000000) (hlb : b1.length ≤ 1000000000) (hk : b1.length < k) :
    ∀ (d i n : Nat) (ds : List Int), i + d = a1.length → d < n → ds.length = a1.length + b1.length → Dg U ds → V U ds = V U (a1.take i) * V U b1 → (∀ p, i + b1.length ≤ p → p < ds.length → ds[p]? = some 0) →
    ∃ ds', Lshuntref01_Times_0 k n (a1.length + b1.length) i a0 a1 b0 b1 false 0 ds [] = some (a1.length + b1.length, a0, a1, b0, b1, false, 0, ds', []) ∧ ds'.length = a1.length + b1.length ∧ Dg U ds' ∧ V U ds' = V U a1 * V U b1 := by
  intro d
  induction d with
  | zero =>
    intro i n ds hi hn hl hd e h0
    obtain ⟨n, rfl⟩ : ∃ m, n = m + 1 := ⟨n - 1, by omega⟩
    have : i = a1.length := by omega
    subst this
    refine ⟨ds, ?_, hl, hd, by rw [e, List.take_length]⟩
    show Lshuntref01_Times_0s k (Lshuntref01_Times_0 k n) _ _ _ _ _ _ _ _ _ _ = _
    unfold Lshuntref01_Times_0s
    simp (config := { implicitDefEqProofs := false, maxSteps := 2000000 }) (disch := omega) only [ps, ↓reduceIte, reduceCtorEq, Int.reduceLT, Int.reduceLE, Int.reduceEq, Nat.reduceLT, Nat.reduceLeDiff, Nat.reduceEqDiff, Int.reduceNeg, eitherK]
  | succ d ih =>
    intro i n ds hi hn hl hd e h0
    obtain ⟨n, rfl⟩ : ∃ m, n = m + 1 := ⟨n - 1, by omega⟩
    obtain ⟨a, hai⟩ := get_of (show i < a1.length by omega)
    have hab := ha.get hai
    obtain ⟨c', o', q1, q2, q3, q4, q5, q6⟩ := times_inner k a0 b0 a1 b1 hb i a hai hab (a1.length + b1.length) (by omega) (by omega) b1.length 0 k 0 ds (by omega) (by omega) (by decide) hl hd
    have hz : o'[i + b1.length]? = some 0 := by rw [q6 _ (Nat.le_refl _)]; exact h0 _ (Nat.le_refl _) (by omega)
    have h1 : ((i : Int) + 1) = ((i + 1 : Nat) : Int) := rfl
    have h2 : ((i : Int) + (b1.length : Int)) = ((i + b1.length : Nat) : Int) := rfl
    have e2 : V U (o'.set (i + b1.length) c') = V U (a1.take (i + 1)) * V U b1 := by
      rw [V_set _ hz, V_take_succ hai, Int.sub_zero]
      simp only [Nat.add_zero, List.drop_zero, Int.zero_mul, Int.add_zero] at q5
      rw [e] at q5
      rw [Int.add_mul, Int.mul_comm (U ^ i) a, ← q5, Int.mul_comm c']
    have e3 : ∀ p, (i + 1) + b1.length ≤ p → p < (o'.set (i + b1.length) c').length → (o'.set (i + b1.length) c')[p]? = some 0 := by
      intro p hp hpl
      rw [List.getElem?_set_ne (by omega), q6 p (by omega)]
      exact h0 p (by omega) (by simp at hpl; omega)
    obtain ⟨o2, r1, r2⟩ := ih (i + 1) n (o'.set (i + b1.length) c') (by omega) (by omega) (by simpa using q3) (q4.set _ q2) e2 e3
    refine ⟨o2, ?_, r2⟩
    rw [← r1]
    show Lshuntref01_Times_0s k (Lshuntref01_Times_0 k n) _ _ _ _ _ _ _ _ _ _ = _
    unfold Lshuntref01_Times_0s
    have q1' : Lshuntref01_Times_2 k k (a1.length + b1.length) i 0 0 a0 a1 b0 b1 false 0 ds [] = _ := q1
    unfold U at q2
    simp (config := { implicitDefEqProofs := false, maxSteps := 2000000 }) (disch := omega) only [ps, ↓reduceIte, reduceCtorEq, Int.reduceLT, Int.reduceLE, Int.reduceEq, Nat.reduceLT, Nat.reduceLeDiff, Nat.reduceEqDiff, Int.reduceNeg, eitherK, q1', h1, h2, hz, Int.zero_add]
theorem Times_ev (a0 b0 : Bool) (a1 b1 : List Int) {x y : Int} (nx : Nm U a0 a1 x) (ny : Nm U b0 b1 y) (hx : a1.length ≤ 1000000) (hy : b1.length ≤ 1000000) :
    ∃ s l, Rn (fun k => Fshuntref01_Times k a0 a1 b0 b1) (s, l) ∧ Nm U s l (x * y) ∧ l.length ≤ a1.length + b1.length := by
  have hU : (0 : Int) < U := by decide
  have main : ∀ k, a1.length + b1.length < k → ∃ ds', Lshuntref01_Times_0 k k (a1.length + b1.length) (0 : Int) a0 a1 b0 b1 false 0 (List.replicate (a1.length + b1.length) 0) [] = some (a1.length + b1.length, a0, a1, b0, b1, false, 0, ds', []) ∧ ds'.length = a1.length + b1.length ∧ Dg U ds' ∧ V U ds' = V U a1 * V U b1 := by
    intro k hk
    refine times_outer k a0 b0 a1 b1 nx.c.1 ny.c.1 (by omega) (by omega) (by omega) a1.length 0 k _ (by omega) (by omega) (by simp) (Dg.rep _ hU) (by rw [V_rep]; simp [V]) ?_
    intro p _ hp
    rw [List.getElem?_replicate_of_lt (by simpa using hp)]
  obtain ⟨o, q1, q2, q3, q4⟩ := main (a1.length + b1.length + 1) (by omega)
  have hto := tl_len o
  have hdec : ∀ l : List Int, decide ((0 : Int) < (l.length : Int)) = decide (0 < l.length) := fun l => by congr 1; simp
  refine ⟨if (!(a0 == b0)) = true then decide (0 < (tl o).length) else false, tl o, ?_, (nm_sg (a0 := !(a0 == b0)) (Cn.of q3) (by rw [V_tl, q4])).cast ?_, by omega⟩
  · refine Rn.up (f := fun k => Fshuntref01_Times k a0 a1 b0 b1) (Rn.eq (a1.length + b1.length + 3) fun k hk => ?_)
    show bshuntref01_Times k a0 a1 b0 b1 = _
    unfold bshuntref01_Times
    obtain ⟨o', r1, r2, r3, r4⟩ := main k (by omega)
    have ho : tl o' = tl o := Cn.ext hU (Cn.of r3) (Cn.of q3) (by rw [V_tl, V_tl, r4, q4])
    have hto' := tl_len o'
    have h2 : ((a1.length : Int) + (b1.length : Int)) = ((a1.length + b1.length : Nat) : Int) := rfl
    have ht := rtrim_eq o' (by omega) k (by omega)
    rw [r2] at ht
    have htt := tl_take o'
    rw [ho] at ht htt hto'
    simp (config := { implicitDefEqProofs := false, maxSteps := 2000000 }) (disch := omega) only [ps, ↓reduceIte, reduceCtorEq, Int.reduceLT, Int.reduceLE, Int.reduceEq, Nat.reduceLT, Nat.reduceLeDiff, Nat.reduceEqDiff, Int.reduceNeg, eitherK, h2, r1, ht]
    by_cases hs : a0 = b0
    · simp (config := { implicitDefEqProofs := false, maxSteps := 2000000 }) (disch := omega) only [ps, ↓reduceIte, reduceCtorEq, Int.reduceLT, Int.reduceLE, Int.reduceEq, Nat.reduceLT, Nat.reduceLeDiff, Nat.reduceEqDiff, Int.reduceNeg, eitherK, hs, htt]
    · simp (config := { implicitDefEqProofs := false, maxSteps := 2000000 }) (disch := omega) only [ps, ↓reduceIte, reduceCtorEq, Int.reduceLT, Int.reduceLE, Int.reduceEq, Nat.reduceLT, Nat.reduceLeDiff, Nat.reduceEqDiff, Int.reduceNeg, eitherK, hs, htt, hdec]
  · rw [← nx.z, ← ny.z]
    cases a0 <;> cases b0 <;> simp [Int.neg_mul, Int.mul_neg]
end Go.Proofs.Ytjgpegpjmkgkkaa.Am

/- Plain reckoning: the reference's division. -/
set_option linter.unusedVariables false
set_option linter.unusedSimpArgs false
set_option maxRecDepth 10000
namespace Go.Proofs.Ytjgpegpjmkgkkaa.Am
open Go

theorem rdiv_uniq {X Y Q R : Int} (h : Y * Q + R = X) (h0 : 0 ≤ R) (h1 : R < Y) : Q = X / Y ∧ R = X % Y := by
  subst h
  have hY : Y ≠ 0 := by omega
  constructor
  · rw [Int.add_comm, Int.add_mul_ediv_left _ _ hY, Int.ediv_eq_zero_of_lt h0 h1]; omega
  · rw [Int.add_comm, Int.add_mul_emod_self_left, Int.emod_eq_of_lt h0 h1]
theorem rtdiv_sg (sx sy : Bool) {X Y : Int} (hX : 0 ≤ X) : (if sx then -X else X).tdiv (if sy then -Y else Y) = if (!(sx == sy)) then -(X / Y) else X / Y := by
  have h : X.tdiv Y = X / Y := tdiv_pos hX
  cases sx <;> cases sy <;> simp [Int.neg_tdiv, Int.tdiv_neg, h]
theorem rtmod_sg (sx sy : Bool) {X Y : Int} (hX : 0 ≤ X) : (if sx then -X else X).tmod (if sy then -Y else Y) = if sx then -(X % Y) else X % Y := by
  have h : X.tmod Y = X % Y := tmod_pos hX
  cases sx <;> cases sy <;> simp [Int.neg_tmod, Int.tmod_neg, h]
theorem le_div_iff {q r b : Int} (hb : 0 < b) : b * q ≤ r ↔ q ≤ r / b := by
  rw [Int.le_ediv_iff_mul_le hb, Int.mul_comm]
theorem digit_loop (r b : List Int) (cr : Cn U r) (cb : Cn U b) (hb : 0 < V U b) (hlr : r.length ≤ 900000) (hlb : b.length ≤ 900000) :
    ∀ (m : Nat) (low high : Int), high - low < 2 ^ m → 0 ≤ low → low ≤ V U r / V U b → V U r / V U b ≤ high → high ≤ 65535 →
    ∃ K, ∀ k n, K ≤ k → m < n → Lshuntref01_digit_0 k n r b low high = some (V U r / V U b) := by
  intro m
  induction m with
  | zero =>
    intro low high h1 h2 h3 h4 h5
    refine ⟨0, fun k n _ hn => ?_⟩
    obtain ⟨n, rfl⟩ : ∃ m, n = m + 1 := ⟨n - 1, by omega⟩
    have : low = V U r / V U b := by simp at h1; omega
    rw [← this] at h4 ⊢
    show Lshuntref01_digit_0s k (Lshuntref01_digit_0 k n) _ _ _ _ = _
    unfold Lshuntref01_digit_0s
    simp at h1
    simp (config := { implicitDefEqProofs := false, maxSteps := 2000000 }) (disch := omega) only [ps, ↓reduceIte, reduceCtorEq, Int.reduceLT, Int.reduceLE, Int.reduceEq, Nat.reduceLT, Nat.reduceLeDiff, Nat.reduceEqDiff, Int.reduceNeg, eitherK]
  | succ m ih =>
    intro low high h1 h2 h3 h4 h5
    by_cases h : low < high
    · have hm : high - low < 2 * 2 ^ m := by rw [Int.pow_succ] at h1; omega
      obtain ⟨q, hq⟩ : ∃ q, q = (low + high + 1) / 2 := ⟨_, rfl⟩
      obtain ⟨l, ⟨K1, s1⟩, s2, s3⟩ := Small_ev q (by omega)
      have hq0 : decide (q < 0) = false := by simp; omega
      rw [hq0] at s1 s2
      obtain ⟨s, t, ⟨K2, t1⟩, t2, t3⟩ := Times_ev false false b l (nm_pos cb rfl) s2 (by omega) (by omega)
      obtain ⟨K3, c1⟩ := mags_ev t r (by omega) (by omega) t2.c cr
      have hvt : V U t = V U b * q := by
        have e := t2.abs (by decide)
        have : 0 ≤ V U b * q := Int.mul_nonneg (by omega) (by omega)
        omega
      rw [hvt] at c1
      have e1 : IntKind.i64.wrap (Int.tdiv (IntKind.i64.wrap (IntKind.i64.wrap (low + high) + 1)) 2) = q := by
        rw [wrap_i64 (x := low + high) (by omega), wrap_i64 (x := low + high + 1) (by omega), tdiv_pos (by omega), wrap_i64 (by omega)]
        exact hq.symm
      by_cases hle : V U b * q ≤ V U r
      · obtain ⟨K4, i1⟩ := ih q high (by omega) (by omega) ((le_div_iff hb).1 hle) h4 h5
        refine ⟨max K1 (max K2 (max K3 K4)), fun k n hk hn => ?_⟩
        obtain ⟨n, rfl⟩ : ∃ m, n = m + 1 := ⟨n - 1, by omega⟩
        rw [← i1 k n (by omega) (by omega)]
        have c := c1 k (by omega)
        obtain ⟨cz, hcz, hcases⟩ := cmpZ_cases (V U b * q) (V U r)
        rw [hcz] at c
        have a1 := s1 k (by omega)
        have a2 := t1 k (by omega)
        show Lshuntref01_digit_0s k (Lshuntref01_digit_0 k n) _ _ _ _ = _
        unfold Lshuntref01_digit_0s
        rw [e1]
        simp (config := { implicitDefEqProofs := false, maxSteps := 2000000 }) (disch := omega) only [ps, ↓reduceIte, reduceCtorEq, Int.reduceLT, Int.reduceLE, Int.reduceEq, Nat.reduceLT, Nat.reduceLeDiff, Nat.reduceEqDiff, Int.reduceNeg, eitherK, a1, a2, c]
      · have hgt : V U r / V U b ≤ q - 1 := by
          have := mt (le_div_iff hb).2 hle
          omega
        obtain ⟨K4, i1⟩ := ih low (q - 1) (by omega) (by omega) h3 hgt (by omega)
        refine ⟨max K1 (max K2 (max K3 K4)), fun k n hk hn => ?_⟩
        obtain ⟨n, rfl⟩ : ∃ m, n = m + 1 := ⟨n - 1, by omega⟩
        rw [← i1 k n (by omega) (by omega)]
        have c := c1 k (by omega)
        obtain ⟨cz, hcz, hcases⟩ := cmpZ_cases (V U b * q) (V U r)
        rw [hcz] at c
        have a1 := s1 k (by omega)
        have a2 := t1 k (by omega)
        show Lshuntref01_digit_0s k (Lshuntref01_digit_0 k n) _ _ _ _ = _
        unfold Lshuntref01_digit_0s
        rw [e1]
        simp (config := { implicitDefEqProofs := false, maxSteps := 2000000 }) (disch := omega) only [ps, ↓reduceIte, reduceCtorEq, Int.reduceLT, Int.reduceLE, Int.reduceEq, Nat.reduceLT, Nat.reduceLeDiff, Nat.reduceEqDiff, Int.reduceNeg, eitherK, a1, a2, c]
    · refine ⟨0, fun k n _ hn => ?_⟩
      obtain ⟨n, rfl⟩ : ∃ m, n = m + 1 := ⟨n - 1, by omega⟩
      have : low = V U r / V U b := by omega
      rw [← this] at h4 ⊢
      show Lshuntref01_digit_0s k (Lshuntref01_digit_0 k n) _ _ _ _ = _
      unfold Lshuntref01_digit_0s
      simp (config := { implicitDefEqProofs := false, maxSteps := 2000000 }) (disch := omega) only [ps, ↓reduceIte, reduceCtorEq, Int.reduceLT, Int.reduceLE, Int.reduceEq, Nat.reduceLT, Nat.reduceLeDiff, Nat.reduceEqDiff, Int.reduceNeg, eitherK]
theorem digit_ev (r b : List Int) (cr : Cn U r) (cb : Cn U b) (hb : 0 < V U b) (hlr : r.length ≤ 900000) (hlb : b.length ≤ 900000) (hq : V U r < U * V U b) : Rn (fun k => Fshuntref01_digit k r b) (V U r / V U b) := by
  refine Rn.up (f := fun k => Fshuntref01_digit k r b) ?_
  show Rn (fun k => bshuntref01_digit k r b) _
  unfold bshuntref01_digit
  have hr0 := V_nonneg (B := U) (by decide) cr.1
  refine Rn.bind (mags_ev r b (by omega) (by omega) cr cb) ?_
  obtain ⟨cz, hcz, hcases⟩ := cmpZ_cases (V U r) (V U b)
  rw [hcz]
  by_cases h : V U r < V U b
  · have : V U r / V U b = 0 := Int.ediv_eq_zero_of_lt hr0 h
    rw [this]
    (first | (refine Rn.t ?hc ?_; case hc => simp (config := { implicitDefEqProofs := false, maxSteps := 2000000 }) (disch := omega) only [ps, ↓reduceIte, reduceCtorEq, Int.reduceLT, Int.reduceLE, Int.reduceEq, Nat.reduceLT, Nat.reduceLeDiff, Nat.reduceEqDiff, Int.reduceNeg, eitherK]) | (refine Rn.f ?hc ?_; case hc => simp (config := { implicitDefEqProofs := false, maxSteps := 2000000 }) (disch := omega) only [ps, ↓reduceIte, reduceCtorEq, Int.reduceLT, Int.reduceLE, Int.reduceEq, Nat.reduceLT, Nat.reduceLeDiff, Nat.reduceEqDiff, Int.reduceNeg, eitherK]))
    exact Rn.pure _
  · have q0 : 0 ≤ V U r / V U b := Int.ediv_nonneg hr0 (by omega)
    have q1 : V U r / V U b < U := Int.ediv_lt_of_lt_mul hb hq
    have q2 : V U r / V U b < 65536 := q1
    obtain ⟨K, h1⟩ := digit_loop r b cr cb hb hlr hlb 16 0 65535 (by decide) (by decide) q0 (by omega) (by decide)
    (first | (refine Rn.t ?hc ?_; case hc => simp (config := { implicitDefEqProofs := false, maxSteps := 2000000 }) (disch := omega) only [ps, ↓reduceIte, reduceCtorEq, Int.reduceLT, Int.reduceLE, Int.reduceEq, Nat.reduceLT, Nat.reduceLeDiff, Nat.reduceEqDiff, Int.reduceNeg, eitherK]) | (refine Rn.f ?hc ?_; case hc => simp (config := { implicitDefEqProofs := false, maxSteps := 2000000 }) (disch := omega) only [ps, ↓reduceIte, reduceCtorEq, Int.reduceLT, Int.reduceLE, Int.reduceEq, Nat.reduceLT, Nat.reduceLeDiff, Nat.reduceEqDiff, Int.reduceNeg, eitherK]))
    exact Rn.bind (Rn.eq (K + 17) fun k hk => h1 k k (by omega) (by omega)) (Rn.pure _)
end Go.Proofs.Ytjgpegpjmkgkkaa.Am

/- Plain reckoning: the reference's division, its main loop. -/
set_option linter.unusedVariables false
set_option linter.unusedSimpArgs false
set_option maxRecDepth 10000
namespace Go.Proofs.Ytjgpegpjmkgkkaa.Am
open Go

/-- What one round needs. -/
theorem div_round (b1 r : List Int) (x1 : Int) (hx : 0 ≤ x1 ∧ x1 < U) (cb : Cn U b1) (hb : 0 < V U b1) (cr : Cn U r) (hr : V U r < V U b1) (hlr : r.length ≤ 800000) (hlb : b1.length ≤ 800000) :
    ∃ d, (0 ≤ d ∧ d < U) ∧ Rn (fun k => Fshuntref01_digit k (tl (x1 :: r)) b1) d ∧ Rn (fun k => Fshuntref01_trim_mfi k (1 + r.length) (x1 :: r)) ((tl (x1 :: r)).length, x1 :: r) ∧
      (d = 0 → V U (tl (x1 :: r)) < V U b1) ∧ (0 < d → ∃ l s t m, Rn (fun k => Fshuntref01_Small k d) (false, l) ∧ Rn (fun k => Fshuntref01_Times k false b1 false l) (s, t) ∧ Rn (fun k => Fshuntref01_minus k (tl (x1 :: r)) t) m ∧
        Cn U m ∧ V U m < V U b1 ∧ V U m + V U b1 * d = x1 + U * V U r ∧ m.length ≤ b1.length) := by
  have hr0 := V_nonneg (B := U) (by decide) cr.1
  have dn : Dg U (x1 :: r) := Dg.cons hx cr.1
  have cn : Cn U (tl (x1 :: r)) := Cn.of dn
  have vn : V U (tl (x1 :: r)) = x1 + U * V U r := by rw [V_tl]; rfl
  have ln := tl_len (x1 :: r)
  have hlen : (x1 :: r).length = r.length + 1 := rfl
  have hlt : V U (tl (x1 :: r)) < U * V U b1 := by
    have : U * (V U r + 1) ≤ U * V U b1 := Int.mul_le_mul_of_nonneg_left (by omega) (by decide)
    rw [vn]; rw [Int.mul_add, Int.mul_one] at this; omega
  have hn0 := V_nonneg (B := U) (by decide) cn.1
  have hd := digit_ev (tl (x1 :: r)) b1 cn cb hb (by omega) (by omega) hlt
  have q0 : 0 ≤ V U (tl (x1 :: r)) / V U b1 := Int.ediv_nonneg hn0 (by omega)
  have q1 : V U (tl (x1 :: r)) / V U b1 < U := Int.ediv_lt_of_lt_mul hb hlt
  have qm := Int.emod_add_mul_ediv (V U (tl (x1 :: r))) (V U b1)
  have qa := Int.emod_nonneg (V U (tl (x1 :: r))) (show V U b1 ≠ 0 by omega)
  have qb := Int.emod_lt_of_pos (V U (tl (x1 :: r))) hb
  refine ⟨_, ⟨q0, q1⟩, hd, ?_, ?_, ?_⟩
  · have := rtrim_ev (1 + r.length) (x1 :: r) (by omega) (by omega)
    rwa [List.take_of_length_le (by omega)] at this
  · intro h; rw [h] at qm; omega
  · intro h
    generalize V U (tl (x1 :: r)) / V U b1 = d at *
    have q2 : d < 65536 := q1
    obtain ⟨l, s1, s2, s3⟩ := Small_ev d (by omega)
    have hq0 : decide (d < 0) = false := by simp; omega
    rw [hq0] at s1 s2
    obtain ⟨s, t, t1, t2, t3⟩ := Times_ev false false b1 l (nm_pos cb rfl) s2 (by omega) (by omega)
    have hvt : V U t = V U b1 * d := by
      have e := t2.abs (by decide)
      have : 0 ≤ V U b1 * d := Int.mul_nonneg (by omega) (by omega)
      omega
    obtain ⟨m, m1, m2, m3, m4⟩ := minus_ev (tl (x1 :: r)) t (by omega) cn.1 t2.c (by omega)
    refine ⟨l, s, t, m, s1, t1, m1, m2, by omega, by omega, ?_⟩
    refine Nat.le_of_not_lt fun hlt => ?_
    have := Cn.len_lt (B := U) (by decide) cb m2 hlt
    omega
/-- The loop's state: the rest stands in a cell's memory, or as its own. -/
def Dst (q : Nat) (i : Int) (a0 : Bool) (a1 : List Int) (b0 : Bool) (b1 qs r : List Int) (x : ((Nat × Nat × Int × Bool × List Int × Bool × List Int × Bool × Nat × Bool × Nat × List Int × List Int × List Int × List Int) ⊕ (Nat × List Int × Int × Bool × List Int × Bool × List Int × Bool × Nat × Bool × Nat × List Int × List Int × List Int))) : Prop :=
  (∃ mem m1 m2, x = .inl (q, r.length, i, a0, a1, b0, b1, false, 0, false, 0, qs, mem, m1, m2) ∧ r.length ≤ mem.length ∧ mem.take r.length = r) ∨ (∃ m1 m2, x = .inr (q, r, i, a0, a1, b0, b1, false, 0, false, 0, qs, m1, m2))
def Dout (q : Nat) (a0 : Bool) (a1 : List Int) (b0 : Bool) (b1 qs r : List Int) (x : ((Nat × Nat × Bool × List Int × Bool × List Int × Bool × Nat × Bool × Nat × List Int × List Int × List Int × List Int) ⊕ (Nat × List Int × Bool × List Int × Bool × List Int × Bool × Nat × Bool × Nat × List Int × List Int × List Int))) : Prop :=
  (∃ mem m1 m2, x = .inl (q, r.length, a0, a1, b0, b1, false, 0, false, 0, qs, mem, m1, m2) ∧ r.length ≤ mem.length ∧ mem.take r.length = r) ∨ (∃ m1 m2, x = .inr (q, r, a0, a1, b0, b1, false, 0, false, 0, qs, m1, m2))
theorem div_alg {b vq vr x d va vm : Int} (h : b * vq + vr = va) (e : vm + b * d = x + U * vr) : b * (d + U * vq) + vm = x + U * va := by
  subst h; grind
theorem div_loop (a0 b0 : Bool) (a1 b1 : List Int) (da : Dg U a1) (cb : Cn U b1) (hb : 0 < V U b1) (hla : a1.length ≤ 800000) (hlb : b1.length ≤ 800000) :
    ∀ (e : Nat) (qs r : List Int) x, e ≤ a1.length → qs.length = a1.length → Dg U qs → Cn U r → V U r < V U b1 → V U b1 * V U (qs.drop e) + V U r = V U (a1.drop e) → Dst a1.length ((e : Int) - 1) a0 a1 b0 b1 qs r x →
    ∃ qs' r' y, Dout a1.length a0 a1 b0 b1 qs' r' y ∧ (qs'.length = a1.length ∧ Dg U qs' ∧ Cn U r' ∧ V U r' < V U b1 ∧ V U b1 * V U qs' + V U r' = V U a1) ∧ ∃ K, ∀ k n, K ≤ k → e < n → Lshuntref01_Divide_0 k n x = some y := by
  intro e
  induction e with
  | zero =>
    intro qs r x he hl dq cr hr hv hx
    rcases hx with ⟨mem, m1, m2, rfl, h1, h2⟩ | ⟨m1, m2, rfl⟩
    · refine ⟨qs, r, _, .inl ⟨mem, m1, m2, rfl, h1, h2⟩, ⟨hl, dq, cr, hr, by simpa using hv⟩, 0, fun k n _ hn => ?_⟩
      obtain ⟨n, rfl⟩ : ∃ m, n = m + 1 := ⟨n - 1, by omega⟩
      show Lshuntref01_Divide_0s k (Lshuntref01_Divide_0 k n) _ = _
      unfold Lshuntref01_Divide_0s
      simp (config := { implicitDefEqProofs := false, maxSteps := 2000000 }) (disch := omega) only [ps, ↓reduceIte, reduceCtorEq, Int.reduceLT, Int.reduceLE, Int.reduceEq, Nat.reduceLT, Nat.reduceLeDiff, Nat.reduceEqDiff, Int.reduceNeg, eitherK, eitherK, Int.zero_sub, Int.natCast_zero]
    · refine ⟨qs, r, _, .inr ⟨m1, m2, rfl⟩, ⟨hl, dq, cr, hr, by simpa using hv⟩, 0, fun k n _ hn => ?_⟩
      obtain ⟨n, rfl⟩ : ∃ m, n = m + 1 := ⟨n - 1, by omega⟩
      show Lshuntref01_Divide_0s k (Lshuntref01_Divide_0 k n) _ = _
      unfold Lshuntref01_Divide_0s
      simp (config := { implicitDefEqProofs := false, maxSteps := 2000000 }) (disch := omega) only [ps, ↓reduceIte, reduceCtorEq, Int.reduceLT, Int.reduceLE, Int.reduceEq, Nat.reduceLT, Nat.reduceLeDiff, Nat.reduceEqDiff, Int.reduceNeg, eitherK, eitherK, Int.zero_sub, Int.natCast_zero]
  | succ j ih =>
    intro qs r x he hl dq cr hr hv hx
    have hlr : r.length ≤ b1.length := by
      refine Nat.le_of_not_lt fun hlt => ?_
      have := Cn.len_lt (B := U) (by decide) cb cr hlt
      omega
    obtain ⟨x1, hx1⟩ := get_of (show j < a1.length by omega)
    obtain ⟨x2, hx2⟩ := get_of (show j < qs.length by omega)
    obtain ⟨d, hd, ⟨K1, h1⟩, ⟨K2, h2⟩, h3, h4⟩ := div_round b1 r x1 (da.get hx1) cb hb cr hr (by omega) hlb
    have hjj : ((j + 1 : Nat) : Int) - 1 = (j : Int) := by omega
    have hdrop : (qs.set j d).drop j = d :: qs.drop (j + 1) := by
      rw [List.drop_eq_getElem_cons (by simp; omega)]
      simp [List.drop_set_of_lt]
    have htl := tl_take (x1 :: r)
    have ltl := tl_len (x1 :: r)
    have hlen : (x1 :: r).length = r.length + 1 := rfl
    have hVa := V_drop (B := U) hx1
    rw [hjj] at hx
    by_cases hd0 : d = 0
    · have hlt := h3 hd0
      subst hd0
      have cn : Cn U (tl (x1 :: r)) := Cn.of (Dg.cons (da.get hx1) cr.1)
      have vn : V U (tl (x1 :: r)) = x1 + U * V U r := by rw [V_tl]; rfl
      have key := ih (qs.set j 0) (tl (x1 :: r))
      have hvv : V U b1 * V U ((qs.set j 0).drop j) + V U (tl (x1 :: r)) = V U (a1.drop j) := by
        rw [hdrop, hVa]; simp only [V]; exact div_alg hv (by rw [vn]; omega)
      rcases hx with ⟨mem, m1, m2, rfl, g1, g2⟩ | ⟨m1, m2, rfl⟩
      · obtain ⟨qs', r', y, i1, i2, K, i3⟩ := key _ (by omega) (by simpa using hl) (dq.set j hd) cn hlt hvv (.inl ⟨x1 :: r, m1, m2, rfl, ltl, htl⟩)
        refine ⟨qs', r', y, i1, i2, max K (max K1 K2), fun k n hk hn => ?_⟩
        obtain ⟨n, rfl⟩ : ∃ m, n = m + 1 := ⟨n - 1, by omega⟩
        rw [← i3 k n (by omega) (by omega)]
        have c1 := h1 k (by omega)
        have c2 := h2 k (by omega)
        show Lshuntref01_Divide_0s k (Lshuntref01_Divide_0 k n) _ = _
        unfold Lshuntref01_Divide_0s
        simp only [eitherK]
        simp (config := { implicitDefEqProofs := false, maxSteps := 2000000 }) (disch := omega) only [ps, ↓reduceIte, reduceCtorEq, Int.reduceLT, Int.reduceLE, Int.reduceEq, Nat.reduceLT, Nat.reduceLeDiff, Nat.reduceEqDiff, Int.reduceNeg, eitherK, g2, hx1, hx2, c1, c2, htl, List.take_succ_cons, List.cons_append]
      · obtain ⟨qs', r', y, i1, i2, K, i3⟩ := key _ (by omega) (by simpa using hl) (dq.set j hd) cn hlt hvv (.inl ⟨x1 :: r, m1, m2, rfl, ltl, htl⟩)
        refine ⟨qs', r', y, i1, i2, max K (max K1 K2), fun k n hk hn => ?_⟩
        obtain ⟨n, rfl⟩ : ∃ m, n = m + 1 := ⟨n - 1, by omega⟩
        rw [← i3 k n (by omega) (by omega)]
        have c1 := h1 k (by omega)
        have c2 := h2 k (by omega)
        show Lshuntref01_Divide_0s k (Lshuntref01_Divide_0 k n) _ = _
        unfold Lshuntref01_Divide_0s
        simp only [eitherK]
        simp (config := { implicitDefEqProofs := false, maxSteps := 2000000 }) (disch := omega) only [ps, ↓reduceIte, reduceCtorEq, Int.reduceLT, Int.reduceLE, Int.reduceEq, Nat.reduceLT, Nat.reduceLeDiff, Nat.reduceEqDiff, Int.reduceNeg, eitherK, hx1, hx2, c1, c2, htl, List.take_succ_cons, List.cons_append]
    · obtain ⟨l, s, t, m, ⟨K3, s1⟩, ⟨K4, s2⟩, ⟨K5, s3⟩, s4, s5, s6, s7⟩ := h4 (by omega)
      have key := ih (qs.set j d) m
      have hvv : V U b1 * V U ((qs.set j d).drop j) + V U m = V U (a1.drop j) := by
        rw [hdrop, hVa]; simp only [V]; exact div_alg hv s6
      rcases hx with ⟨mem, m1, m2, rfl, g1, g2⟩ | ⟨m1, m2, rfl⟩
      · obtain ⟨qs', r', y, i1, i2, K, i3⟩ := key _ (by omega) (by simpa using hl) (dq.set j hd) s4 s5 hvv (.inr ⟨m1, m2, rfl⟩)
        refine ⟨qs', r', y, i1, i2, max K (max (max K1 K2) (max K3 (max K4 K5))), fun k n hk hn => ?_⟩
        obtain ⟨n, rfl⟩ : ∃ m, n = m + 1 := ⟨n - 1, by omega⟩
        rw [← i3 k n (by omega) (by omega)]
        have c1 := h1 k (by omega)
        have c2 := h2 k (by omega)
        have c3 := s1 k (by omega)
        have c4 := s2 k (by omega)
        have c5 := s3 k (by omega)
        show Lshuntref01_Divide_0s k (Lshuntref01_Divide_0 k n) _ = _
        unfold Lshuntref01_Divide_0s
        simp only [eitherK]
        simp (config := { implicitDefEqProofs := false, maxSteps := 2000000 }) (disch := omega) only [ps, ↓reduceIte, reduceCtorEq, Int.reduceLT, Int.reduceLE, Int.reduceEq, Nat.reduceLT, Nat.reduceLeDiff, Nat.reduceEqDiff, Int.reduceNeg, eitherK, g2, hx1, hx2, c1, c2, c3, c4, c5, htl, List.take_succ_cons, List.cons_append]
      · obtain ⟨qs', r', y, i1, i2, K, i3⟩ := key _ (by omega) (by simpa using hl) (dq.set j hd) s4 s5 hvv (.inr ⟨m1, m2, rfl⟩)
        refine ⟨qs', r', y, i1, i2, max K (max (max K1 K2) (max K3 (max K4 K5))), fun k n hk hn => ?_⟩
        obtain ⟨n, rfl⟩ : ∃ m, n = m + 1 := ⟨n - 1, by omega⟩
        rw [← i3 k n (by omega) (by omega)]
        have c1 := h1 k (by omega)
        have c2 := h2 k (by omega)
        have c3 := s1 k (by omega)
        have c4 := s2 k (by omega)
        have c5 := s3 k (by omega)
        show Lshuntref01_Divide_0s k (Lshuntref01_Divide_0 k n) _ = _
        unfold Lshuntref01_Divide_0s
        simp only [eitherK]
        simp (config := { implicitDefEqProofs := false, maxSteps := 2000000 }) (disch := omega) only [ps, ↓reduceIte, reduceCtorEq, Int.reduceLT, Int.reduceLE, Int.reduceEq, Nat.reduceLT, Nat.reduceLeDiff, Nat.reduceEqDiff, Int.reduceNeg, eitherK, hx1, hx2, c1, c2, c3, c4, c5, htl, List.take_succ_cons, List.cons_append]
end Go.Proofs.Ytjgpegpjmkgkkaa.Am

/- Plain reckoning: numbers lent and looked at again; the reference's calls of two numbers. -/
set_option linter.unusedVariables false
set_option linter.unusedSimpArgs false
set_option maxRecDepth 10000
namespace Go.Proofs.Ytjgpegpjmkgkkaa.Am
open Go

/-- The mark behind a number that is lent. -/
abbrev mk (a1 : List Int) : List Int := a1 ++ [11259375]
section
variable {a0 b0 : Bool} {a1 b1 : List Int} (la : a1.length ≤ 9223372036854775807) (lb : b1.length ≤ 9223372036854775807) (da : Dg W a1) (db : Dg W b1)
include la lb da db
end
end Go.Proofs.Ytjgpegpjmkgkkaa.Am

/- Plain reckoning: the reference's division and common divisor, whole. -/
set_option linter.unusedVariables false
set_option linter.unusedSimpArgs false
set_option maxRecDepth 10000
namespace Go.Proofs.Ytjgpegpjmkgkkaa.Am
open Go

set_option maxHeartbeats 1000000 in
theorem Divide_ev (a0 b0 : Bool) (a1 b1 : List Int) {x y : Int} (nx : Nm U a0 a1 x) (ny : Nm U b0 b1 y) (hla : a1.length ≤ 800000) (hlb : b1.length ≤ 800000) (hb0 : b1 ≠ []) :
    ∃ s q t r, Rn (fun k => Fshuntref01_Divide k a0 a1 b0 b1) (s, q, t, r) ∧ Nm U s q (x.tdiv y) ∧ Nm U t r (x.tmod y) ∧ q.length ≤ a1.length ∧ r.length ≤ b1.length := by
  have hb : 0 < V U b1 := by
    have p := V_nonneg (B := U) (by decide) ny.c.1
    have := mt (ny.c.nil_iff (B := U) (by decide)).2 hb0
    omega
  have pa := V_nonneg (B := U) (by decide) nx.c.1
  obtain ⟨qs, r, z, hz, ⟨lq, dq, cr, hr, hv⟩, K, hl⟩ := div_loop a0 b0 a1 b1 nx.c.1 ny.c hb hla hlb a1.length (List.replicate a1.length 0) [] _ (Nat.le_refl _) (by simp) (Dg.rep _ (by decide)) Cn.nil (by simpa [V] using hb) (by
    rw [List.drop_of_length_le (by simp), List.drop_of_length_le (by simp)]; simp [V]) (.inl ⟨[], [], [], rfl, by simp, rfl⟩)
  have hr0 := V_nonneg (B := U) (by decide) cr.1
  have hu := rdiv_uniq hv hr0 hr
  have cq : Cn U (tl qs) := Cn.of dq
  have e1 := rtdiv_sg a0 b0 (Y := V U b1) pa
  have e2 := rtmod_sg a0 b0 (Y := V U b1) pa
  rw [nx.z, ny.z, ← hu.1] at e1
  rw [nx.z, ny.z, ← hu.2] at e2
  have n1 := nm_sg (a0 := !(a0 == b0)) cq (V_tl qs)
  have n2 := nm_sg (a0 := a0) cr rfl
  have ltq := tl_len qs
  refine ⟨_, _, _, _, ?_, n1.cast e1.symm, n2.cast e2.symm, by omega, ?_⟩
  · refine Rn.up (f := fun k => Fshuntref01_Divide k a0 a1 b0 b1) (Rn.eq (K + a1.length + 4) fun k hk => ?_)
    show bshuntref01_Divide k a0 a1 b0 b1 = _
    unfold bshuntref01_Divide
    have hdec : ∀ l : List Int, decide ((0 : Int) < (l.length : Int)) = decide (0 < l.length) := fun l => by congr 1; simp
    have h1 : Lshuntref01_Divide_0 k k (Sum.inl (a1.length, 0, (a1.length : Int) - 1, a0, a1, b0, b1, false, 0, false, 0, List.replicate a1.length 0, [], [], [])) = some z := hl k k (by omega) (by omega)
    have h2 := rtrim_eq qs (by omega) k (by omega)
    rw [lq] at h2
    have h3 := tl_take qs
    rcases hz with ⟨mem, m1, m2, rfl, g1, g2⟩ | ⟨m1, m2, rfl⟩
    · simp (config := { implicitDefEqProofs := false, maxSteps := 2000000 }) (disch := omega) only [ps, ↓reduceIte, reduceCtorEq, Int.reduceLT, Int.reduceLE, Int.reduceEq, Nat.reduceLT, Nat.reduceLeDiff, Nat.reduceEqDiff, Int.reduceNeg, eitherK, h1]
      simp (config := { implicitDefEqProofs := false, maxSteps := 2000000 }) (disch := omega) only [ps, ↓reduceIte, reduceCtorEq, Int.reduceLT, Int.reduceLE, Int.reduceEq, Nat.reduceLT, Nat.reduceLeDiff, Nat.reduceEqDiff, Int.reduceNeg, eitherK, h2, g1]
      cases a0 <;> cases b0 <;> simp (config := { implicitDefEqProofs := false, maxSteps := 2000000 }) (disch := omega) only [ps, ↓reduceIte, reduceCtorEq, Int.reduceLT, Int.reduceLE, Int.reduceEq, Nat.reduceLT, Nat.reduceLeDiff, Nat.reduceEqDiff, Int.reduceNeg, eitherK, h3, g2, hdec, if_true, if_false]
    · simp (config := { implicitDefEqProofs := false, maxSteps := 2000000 }) (disch := omega) only [ps, ↓reduceIte, reduceCtorEq, Int.reduceLT, Int.reduceLE, Int.reduceEq, Nat.reduceLT, Nat.reduceLeDiff, Nat.reduceEqDiff, Int.reduceNeg, eitherK, h1]
      simp (config := { implicitDefEqProofs := false, maxSteps := 2000000 }) (disch := omega) only [ps, ↓reduceIte, reduceCtorEq, Int.reduceLT, Int.reduceLE, Int.reduceEq, Nat.reduceLT, Nat.reduceLeDiff, Nat.reduceEqDiff, Int.reduceNeg, eitherK, h2]
      cases a0 <;> cases b0 <;> simp (config := { implicitDefEqProofs := false, maxSteps := 2000000 }) (disch := omega) only [ps, ↓reduceIte, reduceCtorEq, Int.reduceLT, Int.reduceLE, Int.reduceEq, Nat.reduceLT, Nat.reduceLeDiff, Nat.reduceEqDiff, Int.reduceNeg, eitherK, h3, hdec, if_true, if_false]
  · refine Nat.le_of_not_lt fun hlt => ?_
    have := Cn.len_lt (B := U) (by decide) ny.c cr hlt
    omega
theorem common_loop (x0 : Bool) (x1 : Nat) (m : List Int) (M : Nat) (hM : M ≤ 800000) : ∀ (N : Nat) (a b : List Int), V U b ≤ N → Cn U a → Cn U b → a.length ≤ M → b.length ≤ M →
    ∃ l b1, (∃ K, ∀ k n, K ≤ k → N < n → Lshuntref01_Common_0 k n false a false b x0 x1 m = some (false, l, false, b1, x0, x1, m)) ∧ Cn U l ∧ V U l = Int.gcd (V U a) (V U b) ∧ l.length ≤ M := by
  intro N
  induction N using Nat.strongRecOn with
  | ind N ih =>
    intro a b hN ca cb ha hb
    have pa := V_nonneg (B := U) (by decide) ca.1
    by_cases h0 : b = []
    · subst h0
      refine ⟨a, [], ⟨0, fun k n _ hn => ?_⟩, ca, by simp [V]; omega, ha⟩
      obtain ⟨n, rfl⟩ : ∃ m, n = m + 1 := ⟨n - 1, by omega⟩
      show Lshuntref01_Common_0s k (Lshuntref01_Common_0 k n) _ _ _ _ _ _ _ = _
      unfold Lshuntref01_Common_0s
      simp (config := { implicitDefEqProofs := false, maxSteps := 2000000 }) (disch := omega) only [ps, ↓reduceIte, reduceCtorEq, Int.reduceLT, Int.reduceLE, Int.reduceEq, Nat.reduceLT, Nat.reduceLeDiff, Nat.reduceEqDiff, Int.reduceNeg, eitherK]
    · have pb : 0 < V U b := by
        have p := V_nonneg (B := U) (by decide) cb.1
        have := mt (cb.nil_iff (B := U) (by decide)).2 h0
        omega
      obtain ⟨s, q, t, r, ⟨K1, h1⟩, h2, h3, h4, h5⟩ := Divide_ev false false a b (nm_pos ca rfl) (nm_pos cb rfl) (by omega) (by omega) h0
      have hr0 := Int.emod_nonneg (V U a) (show V U b ≠ 0 by omega)
      have hr1 := Int.emod_lt_of_pos (V U a) pb
      rw [tmod_pos pa] at h3
      obtain ⟨R, hR⟩ := Int.eq_ofNat_of_zero_le hr0
      have ht : t = false := by rw [h3.neg (by decide)]; simp; omega
      subst ht
      have hvr : V U r = R := by rw [h3.abs (by decide), hR]; rfl
      obtain ⟨l, b1, ⟨K2, i1⟩, i2, i3, i4⟩ := ih R (by omega) b r (by omega) cb h3.c hb (by omega)
      refine ⟨l, b1, ⟨max K1 K2, fun k n hk hn => ?_⟩, i2, ?_, i4⟩
      · obtain ⟨n, rfl⟩ : ∃ m, n = m + 1 := ⟨n - 1, by omega⟩
        rw [← i1 k n (by omega) (by omega)]
        have c1 := h1 k (by omega)
        have lb : 0 < b.length := by
          cases b with
          | nil => exact absurd rfl h0
          | cons _ _ => simp
        show Lshuntref01_Common_0s k (Lshuntref01_Common_0 k n) _ _ _ _ _ _ _ = _
        unfold Lshuntref01_Common_0s
        simp (config := { implicitDefEqProofs := false, maxSteps := 2000000 }) (disch := omega) only [ps, ↓reduceIte, reduceCtorEq, Int.reduceLT, Int.reduceLE, Int.reduceEq, Nat.reduceLT, Nat.reduceLeDiff, Nat.reduceEqDiff, Int.reduceNeg, eitherK, c1]
      · rw [i3, hvr, ← hR]
        obtain ⟨A, hA⟩ := Int.eq_ofNat_of_zero_le pa
        obtain ⟨B, hB⟩ := Int.eq_ofNat_of_zero_le (Int.le_of_lt pb)
        rw [hA, hB]
        show (((Int.gcd (B : Int) ((A % B : Nat) : Int)) : Nat) : Int) = _
        rw [Int.gcd_natCast_natCast, Int.gcd_natCast_natCast, Nat.gcd_comm, ← Nat.gcd_rec, Nat.gcd_comm]
theorem Common_ev (a0 b0 : Bool) (a1 b1 : List Int) {x y : Int} (nx : Nm U a0 a1 x) (ny : Nm U b0 b1 y) (hx : a1.length ≤ 800000) (hy : b1.length ≤ 800000) :
    ∃ l, Rn (fun k => Fshuntref01_Common k a0 a1 b0 b1) (false, l) ∧ Nm U false l (Int.gcd x y) ∧ l.length ≤ max a1.length b1.length := by
  obtain ⟨N, hN⟩ := Int.eq_ofNat_of_zero_le (V_nonneg (B := U) (by decide) ny.c.1)
  obtain ⟨l, b', ⟨K, h1⟩, h2, h3, h4⟩ := common_loop false 0 [] (max a1.length b1.length) (by omega) N a1 b1 (by omega) nx.c ny.c (by omega) (by omega)
  have e : (Int.gcd (V U a1) (V U b1) : Int) = Int.gcd x y := by
    have e1 := nx.z
    have e2 := ny.z
    rw [← e1, ← e2]
    cases a0 <;> cases b0 <;> simp
  refine ⟨l, Rn.up (f := fun k => Fshuntref01_Common k a0 a1 b0 b1) ?_, nm_pos h2 (by rw [h3, e]), h4⟩
  have q1 : Rn (fun k => Fshuntref01_Abs k a0 a1) (false, a1) := Rn.up (f := fun k => Fshuntref01_Abs k a0 a1) (Rn.pure _)
  have q2 : Rn (fun k => Fshuntref01_Abs k b0 b1) (false, b1) := Rn.up (f := fun k => Fshuntref01_Abs k b0 b1) (Rn.pure _)
  refine Rn.bind (f := fun k => Fshuntref01_Abs k a0 a1) q1 (Rn.bind q2 ?_)
  exact Rn.bind (x := (false, l, false, b', false, 0, [])) (Rn.eq (K + N + 1) fun k hk => h1 k k (by omega) (by omega)) (Rn.pure _)
section
variable {a0 b0 : Bool} {a1 b1 : List Int} (la : a1.length ≤ 9223372036854775807) (lb : b1.length ≤ 9223372036854775807) (da : Dg W a1) (db : Dg W b1)
include la lb da db
end
end Go.Proofs.Ytjgpegpjmkgkkaa.Am

/- Plain reckoning: right fractions, and the layer's calls of two of them. -/
set_option linter.unusedVariables false
set_option linter.unusedSectionVars false
set_option linter.unusedSimpArgs false
set_option maxRecDepth 10000
namespace Go.Proofs.Ytjgpegpjmkgkkaa.Am
open Go

/-- What a fraction is refused for. -/
def faultR (n0 : Bool) (n1 : List Int) (d0 : Bool) (d1 : List Int) : Int :=
  if Ri n0 n1 ∧ Ri d0 d1 then (if d0 = false ∧ d1 ≠ [] ∧ Int.gcd (Zv W n0 n1) (Zv W d0 d1) = 1 then 0 else 20) else 10
theorem faultR_cases (n0 : Bool) (n1 : List Int) (d0 : Bool) (d1 : List Int) : faultR n0 n1 d0 d1 = 0 ∨ faultR n0 n1 d0 d1 = 10 ∨ faultR n0 n1 d0 d1 = 20 := by
  unfold faultR
  split
  · split
    · exact .inl rfl
    · exact .inr (.inr rfl)
  · exact .inr (.inl rfl)
theorem zv_pos {d1 : List Int} {d0 : Bool} (h0 : d0 = false) (hne : d1 ≠ []) (cd : Cn W d1) : 0 < Zv W d0 d1 := by
  subst h0
  have p := V_nonneg (B := W) (by decide) cd.1
  have q := mt (cd.nil_iff (B := W) (by decide)).2 hne
  simp [Zv]; omega
theorem num_of_one {x y : Int} (hy : 0 < y) (hg : Int.gcd x y = 1) : (Rat.divInt x y).num = x ∧ ((Rat.divInt x y).den : Int) = y := by
  refine ⟨?_, ?_⟩
  · rw [num_eq x (by omega), if_neg (by omega), hg]; simp
  · rw [den_eq x (by omega), if_neg (by omega), hg]; simp
theorem fault_fr {n0 d0 : Bool} {n1 d1 : List Int} (dn : Dg W n1) (dd : Dg W d1) (h : faultR n0 n1 d0 d1 = 0) : ∃ q, Fr n0 n1 d0 d1 q ∧ n1.length ≤ 72 ∧ d1.length ≤ 72 := by
  unfold faultR at h
  split at h
  · rename_i hr
    split at h
    · rename_i hc
      obtain ⟨h1, h2, h3⟩ := hc
      have a := hr.1.nm dn
      have b := hr.2.nm dd
      obtain ⟨e1, e2⟩ := num_of_one (zv_pos h1 h2 b.c) h3
      exact ⟨Rat.divInt (Zv W n0 n1) (Zv W d0 d1), ⟨a.cast e1.symm, b.cast e2.symm⟩, hr.1.1, hr.2.1⟩
    · cases h
  · cases h
theorem fr_fault {n0 d0 : Bool} {n1 d1 : List Int} {q : Rat} (h : Fr n0 n1 d0 d1 q) (l1 : n1.length ≤ 72) (l3 : d1.length ≤ 72) : faultR n0 n1 d0 d1 = 0 := by
  unfold faultR
  rw [if_pos ⟨h.1.ri l1, h.2.ri l3⟩, if_pos]
  refine ⟨h.d0, h.ne, ?_⟩
  rw [show Zv W n0 n1 = q.num from h.1.z, show Zv W d0 d1 = q.den from h.2.z]
  have := q.reduced
  show Nat.gcd q.num.natAbs (q.den : Int).natAbs = 1
  rw [Int.natAbs_natCast]
  exact this
theorem one_iff {l : List Int} {g : Nat} (h : Nm W false l g) : l = [1] ↔ g = 1 := by
  have hc : Cn W [1] := ⟨Dg.cons (by decide) Dg.nil, rfl⟩
  have hv := h.abs (by decide)
  constructor
  · rintro rfl
    simp [V] at hv
    omega
  · rintro rfl
    refine Cn.ext (B := W) (by decide) h.c hc ?_
    rw [hv]; simp [V]
section
variable {n0 d0 : Bool} {n1 d1 : List Int} (la : n1.length ≤ 9223372036854775807) (lb : d1.length ≤ 9223372036854775807) (da : Dg W n1) (db : Dg W d1)
include la lb da db
theorem ratCheck_ev : Rn (fun k => Frat_Check k n0 n1 d0 d1) (faultR n0 n1 d0 d1) := by
  refine Rn.up (f := fun k => Frat_Check k n0 n1 d0 d1) ?_
  show Rn (fun k => brat_Check k n0 n1 d0 d1) _
  unfold brat_Check
  refine Rn.bind (check_ev n0 n1 la da) ?_
  by_cases hn : Ri n0 n1
  case neg =>
    have e : faultR n0 n1 d0 d1 = 10 := if_neg (fun c => hn c.1)
    rw [e, if_neg hn]
    (first | (refine Rn.t ?hc ?_; case hc => simp (config := { implicitDefEqProofs := false, maxSteps := 2000000 }) (disch := omega) only [ps, ↓reduceIte, reduceCtorEq, Int.reduceLT, Int.reduceLE, Int.reduceEq, Nat.reduceLT, Nat.reduceLeDiff, Nat.reduceEqDiff, Int.reduceNeg, eitherK]) | (refine Rn.f ?hc ?_; case hc => simp (config := { implicitDefEqProofs := false, maxSteps := 2000000 }) (disch := omega) only [ps, ↓reduceIte, reduceCtorEq, Int.reduceLT, Int.reduceLE, Int.reduceEq, Nat.reduceLT, Nat.reduceLeDiff, Nat.reduceEqDiff, Int.reduceNeg, eitherK]))
    exact Rn.pure _
  rw [if_pos hn]
  (first | (refine Rn.t ?hc ?_; case hc => simp (config := { implicitDefEqProofs := false, maxSteps := 2000000 }) (disch := omega) only [ps, ↓reduceIte, reduceCtorEq, Int.reduceLT, Int.reduceLE, Int.reduceEq, Nat.reduceLT, Nat.reduceLeDiff, Nat.reduceEqDiff, Int.reduceNeg, eitherK]) | (refine Rn.f ?hc ?_; case hc => simp (config := { implicitDefEqProofs := false, maxSteps := 2000000 }) (disch := omega) only [ps, ↓reduceIte, reduceCtorEq, Int.reduceLT, Int.reduceLE, Int.reduceEq, Nat.reduceLT, Nat.reduceLeDiff, Nat.reduceEqDiff, Int.reduceNeg, eitherK]))
  refine Rn.bind (check_ev d0 d1 lb db) ?_
  by_cases hd : Ri d0 d1
  case neg =>
    have e : faultR n0 n1 d0 d1 = 10 := if_neg (fun c => hd c.2)
    rw [e, if_neg hd]
    (first | (refine Rn.t ?hc ?_; case hc => simp (config := { implicitDefEqProofs := false, maxSteps := 2000000 }) (disch := omega) only [ps, ↓reduceIte, reduceCtorEq, Int.reduceLT, Int.reduceLE, Int.reduceEq, Nat.reduceLT, Nat.reduceLeDiff, Nat.reduceEqDiff, Int.reduceNeg, eitherK]) | (refine Rn.f ?hc ?_; case hc => simp (config := { implicitDefEqProofs := false, maxSteps := 2000000 }) (disch := omega) only [ps, ↓reduceIte, reduceCtorEq, Int.reduceLT, Int.reduceLE, Int.reduceEq, Nat.reduceLT, Nat.reduceLeDiff, Nat.reduceEqDiff, Int.reduceNeg, eitherK]))
    exact Rn.pure _
  rw [if_pos hd]
  (first | (refine Rn.t ?hc ?_; case hc => simp (config := { implicitDefEqProofs := false, maxSteps := 2000000 }) (disch := omega) only [ps, ↓reduceIte, reduceCtorEq, Int.reduceLT, Int.reduceLE, Int.reduceEq, Nat.reduceLT, Nat.reduceLeDiff, Nat.reduceEqDiff, Int.reduceNeg, eitherK]) | (refine Rn.f ?hc ?_; case hc => simp (config := { implicitDefEqProofs := false, maxSteps := 2000000 }) (disch := omega) only [ps, ↓reduceIte, reduceCtorEq, Int.reduceLT, Int.reduceLE, Int.reduceEq, Nat.reduceLT, Nat.reduceLeDiff, Nat.reduceEqDiff, Int.reduceNeg, eitherK]))
  have e0 : faultR n0 n1 d0 d1 = if d0 = false ∧ d1 ≠ [] ∧ Int.gcd (Zv W n0 n1) (Zv W d0 d1) = 1 then 0 else 20 := if_pos ⟨hn, hd⟩
  cases d0
  case true =>
    rw [e0.trans (if_neg (fun c => by cases c.1))]
    (first | (refine Rn.t ?hc ?_; case hc => simp (config := { implicitDefEqProofs := false, maxSteps := 2000000 }) (disch := omega) only [ps, ↓reduceIte, reduceCtorEq, Int.reduceLT, Int.reduceLE, Int.reduceEq, Nat.reduceLT, Nat.reduceLeDiff, Nat.reduceEqDiff, Int.reduceNeg, eitherK]) | (refine Rn.f ?hc ?_; case hc => simp (config := { implicitDefEqProofs := false, maxSteps := 2000000 }) (disch := omega) only [ps, ↓reduceIte, reduceCtorEq, Int.reduceLT, Int.reduceLE, Int.reduceEq, Nat.reduceLT, Nat.reduceLeDiff, Nat.reduceEqDiff, Int.reduceNeg, eitherK]))
    exact Rn.pure _
  (first | (refine Rn.t ?hc ?_; case hc => simp (config := { implicitDefEqProofs := false, maxSteps := 2000000 }) (disch := omega) only [ps, ↓reduceIte, reduceCtorEq, Int.reduceLT, Int.reduceLE, Int.reduceEq, Nat.reduceLT, Nat.reduceLeDiff, Nat.reduceEqDiff, Int.reduceNeg, eitherK]) | (refine Rn.f ?hc ?_; case hc => simp (config := { implicitDefEqProofs := false, maxSteps := 2000000 }) (disch := omega) only [ps, ↓reduceIte, reduceCtorEq, Int.reduceLT, Int.reduceLE, Int.reduceEq, Nat.reduceLT, Nat.reduceLeDiff, Nat.reduceEqDiff, Int.reduceNeg, eitherK]))
  by_cases h0 : d1 = []
  · rw [e0.trans (if_neg (fun c => c.2.1 h0))]
    subst h0
    (first | (refine Rn.t ?hc ?_; case hc => simp (config := { implicitDefEqProofs := false, maxSteps := 2000000 }) (disch := omega) only [ps, ↓reduceIte, reduceCtorEq, Int.reduceLT, Int.reduceLE, Int.reduceEq, Nat.reduceLT, Nat.reduceLeDiff, Nat.reduceEqDiff, Int.reduceNeg, eitherK]) | (refine Rn.f ?hc ?_; case hc => simp (config := { implicitDefEqProofs := false, maxSteps := 2000000 }) (disch := omega) only [ps, ↓reduceIte, reduceCtorEq, Int.reduceLT, Int.reduceLE, Int.reduceEq, Nat.reduceLT, Nat.reduceLeDiff, Nat.reduceEqDiff, Int.reduceNeg, eitherK]))
    exact Rn.pure _
  · have l0 : 0 < d1.length := by
      cases d1 with
      | nil => exact absurd rfl h0
      | cons _ _ => simp
    (first | (refine Rn.t ?hc ?_; case hc => simp (config := { implicitDefEqProofs := false, maxSteps := 2000000 }) (disch := omega) only [ps, ↓reduceIte, reduceCtorEq, Int.reduceLT, Int.reduceLE, Int.reduceEq, Nat.reduceLT, Nat.reduceLeDiff, Nat.reduceEqDiff, Int.reduceNeg, eitherK]) | (refine Rn.f ?hc ?_; case hc => simp (config := { implicitDefEqProofs := false, maxSteps := 2000000 }) (disch := omega) only [ps, ↓reduceIte, reduceCtorEq, Int.reduceLT, Int.reduceLE, Int.reduceEq, Nat.reduceLT, Nat.reduceLeDiff, Nat.reduceEqDiff, Int.reduceNeg, eitherK]))
    obtain ⟨l, g1, g2, g3⟩ := limbGcd_ev la lb da db hn hd
    refine Rn.bind g1 ?_
    have ho := one_iff g2
    by_cases hg : Int.gcd (Zv W n0 n1) (Zv W false d1) = 1
    · rw [e0.trans (if_pos ⟨rfl, h0, hg⟩)]
      have hl := ho.2 hg
      subst hl
      (first | (refine Rn.t ?hc ?_; case hc => simp (config := { implicitDefEqProofs := false, maxSteps := 2000000 }) (disch := omega) only [ps, ↓reduceIte, reduceCtorEq, Int.reduceLT, Int.reduceLE, Int.reduceEq, Nat.reduceLT, Nat.reduceLeDiff, Nat.reduceEqDiff, Int.reduceNeg, eitherK, List.length_cons]) | (refine Rn.f ?hc ?_; case hc => simp (config := { implicitDefEqProofs := false, maxSteps := 2000000 }) (disch := omega) only [ps, ↓reduceIte, reduceCtorEq, Int.reduceLT, Int.reduceLE, Int.reduceEq, Nat.reduceLT, Nat.reduceLeDiff, Nat.reduceEqDiff, Int.reduceNeg, eitherK, List.length_cons]))
      refine Rn.at (x := 1) rfl ?_
      (first | (refine Rn.t ?hc ?_; case hc => simp (config := { implicitDefEqProofs := false, maxSteps := 2000000 }) (disch := omega) only [ps, ↓reduceIte, reduceCtorEq, Int.reduceLT, Int.reduceLE, Int.reduceEq, Nat.reduceLT, Nat.reduceLeDiff, Nat.reduceEqDiff, Int.reduceNeg, eitherK]) | (refine Rn.f ?hc ?_; case hc => simp (config := { implicitDefEqProofs := false, maxSteps := 2000000 }) (disch := omega) only [ps, ↓reduceIte, reduceCtorEq, Int.reduceLT, Int.reduceLE, Int.reduceEq, Nat.reduceLT, Nat.reduceLeDiff, Nat.reduceEqDiff, Int.reduceNeg, eitherK]))
      exact Rn.pure _
    · rw [e0.trans (if_neg (fun c => hg c.2.2))]
      by_cases hlen : l.length = 1
      · obtain ⟨x, rfl⟩ : ∃ x, l = [x] := by
          match l, hlen with
          | [x], _ => exact ⟨x, rfl⟩
        (first | (refine Rn.t ?hc ?_; case hc => simp (config := { implicitDefEqProofs := false, maxSteps := 2000000 }) (disch := omega) only [ps, ↓reduceIte, reduceCtorEq, Int.reduceLT, Int.reduceLE, Int.reduceEq, Nat.reduceLT, Nat.reduceLeDiff, Nat.reduceEqDiff, Int.reduceNeg, eitherK, List.length_cons]) | (refine Rn.f ?hc ?_; case hc => simp (config := { implicitDefEqProofs := false, maxSteps := 2000000 }) (disch := omega) only [ps, ↓reduceIte, reduceCtorEq, Int.reduceLT, Int.reduceLE, Int.reduceEq, Nat.reduceLT, Nat.reduceLeDiff, Nat.reduceEqDiff, Int.reduceNeg, eitherK, List.length_cons]))
        refine Rn.at (x := x) rfl ?_
        have hx : x ≠ 1 := fun h => hg (ho.1 (by rw [h]))
        (first | (refine Rn.t ?hc ?_; case hc => simp (config := { implicitDefEqProofs := false, maxSteps := 2000000 }) (disch := omega) only [ps, ↓reduceIte, reduceCtorEq, Int.reduceLT, Int.reduceLE, Int.reduceEq, Nat.reduceLT, Nat.reduceLeDiff, Nat.reduceEqDiff, Int.reduceNeg, eitherK]) | (refine Rn.f ?hc ?_; case hc => simp (config := { implicitDefEqProofs := false, maxSteps := 2000000 }) (disch := omega) only [ps, ↓reduceIte, reduceCtorEq, Int.reduceLT, Int.reduceLE, Int.reduceEq, Nat.reduceLT, Nat.reduceLeDiff, Nat.reduceEqDiff, Int.reduceNeg, eitherK]))
        exact Rn.pure _
      · (first | (refine Rn.t ?hc ?_; case hc => simp (config := { implicitDefEqProofs := false, maxSteps := 2000000 }) (disch := omega) only [ps, ↓reduceIte, reduceCtorEq, Int.reduceLT, Int.reduceLE, Int.reduceEq, Nat.reduceLT, Nat.reduceLeDiff, Nat.reduceEqDiff, Int.reduceNeg, eitherK]) | (refine Rn.f ?hc ?_; case hc => simp (config := { implicitDefEqProofs := false, maxSteps := 2000000 }) (disch := omega) only [ps, ↓reduceIte, reduceCtorEq, Int.reduceLT, Int.reduceLE, Int.reduceEq, Nat.reduceLT, Nat.reduceLeDiff, Nat.reduceEqDiff, Int.reduceNeg, eitherK]))
        exact Rn.pure _
theorem refFault_ev : Rn (fun k => Fshuntref02_Fault k n0 n1 d0 d1) (faultR n0 n1 d0 d1) := by
  refine Rn.up (f := fun k => Fshuntref02_Fault k n0 n1 d0 d1) ?_
  show Rn (fun k => bshuntref02_Fault k n0 n1 d0 d1) _
  unfold bshuntref02_Fault
  refine Rn.bind (right_ev n0 n1 la da) ?_
  by_cases hn : Ri n0 n1
  case neg =>
    have e : faultR n0 n1 d0 d1 = 10 := if_neg (fun c => hn c.1)
    rw [e]
    (first | (refine Rn.t ?hc ?_; case hc => simp (config := { implicitDefEqProofs := false, maxSteps := 2000000 }) (disch := omega) only [ps, ↓reduceIte, reduceCtorEq, Int.reduceLT, Int.reduceLE, Int.reduceEq, Nat.reduceLT, Nat.reduceLeDiff, Nat.reduceEqDiff, Int.reduceNeg, eitherK, hn, decide_false]) | (refine Rn.f ?hc ?_; case hc => simp (config := { implicitDefEqProofs := false, maxSteps := 2000000 }) (disch := omega) only [ps, ↓reduceIte, reduceCtorEq, Int.reduceLT, Int.reduceLE, Int.reduceEq, Nat.reduceLT, Nat.reduceLeDiff, Nat.reduceEqDiff, Int.reduceNeg, eitherK, hn, decide_false]))
    exact Rn.pure _
  (first | (refine Rn.t ?hc ?_; case hc => simp (config := { implicitDefEqProofs := false, maxSteps := 2000000 }) (disch := omega) only [ps, ↓reduceIte, reduceCtorEq, Int.reduceLT, Int.reduceLE, Int.reduceEq, Nat.reduceLT, Nat.reduceLeDiff, Nat.reduceEqDiff, Int.reduceNeg, eitherK, hn, decide_true]) | (refine Rn.f ?hc ?_; case hc => simp (config := { implicitDefEqProofs := false, maxSteps := 2000000 }) (disch := omega) only [ps, ↓reduceIte, reduceCtorEq, Int.reduceLT, Int.reduceLE, Int.reduceEq, Nat.reduceLT, Nat.reduceLeDiff, Nat.reduceEqDiff, Int.reduceNeg, eitherK, hn, decide_true]))
  refine Rn.bind (right_ev d0 d1 lb db) ?_
  by_cases hd : Ri d0 d1
  case neg =>
    have e : faultR n0 n1 d0 d1 = 10 := if_neg (fun c => hd c.2)
    rw [e]
    (first | (refine Rn.t ?hc ?_; case hc => simp (config := { implicitDefEqProofs := false, maxSteps := 2000000 }) (disch := omega) only [ps, ↓reduceIte, reduceCtorEq, Int.reduceLT, Int.reduceLE, Int.reduceEq, Nat.reduceLT, Nat.reduceLeDiff, Nat.reduceEqDiff, Int.reduceNeg, eitherK, hd, decide_false]) | (refine Rn.f ?hc ?_; case hc => simp (config := { implicitDefEqProofs := false, maxSteps := 2000000 }) (disch := omega) only [ps, ↓reduceIte, reduceCtorEq, Int.reduceLT, Int.reduceLE, Int.reduceEq, Nat.reduceLT, Nat.reduceLeDiff, Nat.reduceEqDiff, Int.reduceNeg, eitherK, hd, decide_false]))
    exact Rn.pure _
  (first | (refine Rn.t ?hc ?_; case hc => simp (config := { implicitDefEqProofs := false, maxSteps := 2000000 }) (disch := omega) only [ps, ↓reduceIte, reduceCtorEq, Int.reduceLT, Int.reduceLE, Int.reduceEq, Nat.reduceLT, Nat.reduceLeDiff, Nat.reduceEqDiff, Int.reduceNeg, eitherK, hd, decide_true]) | (refine Rn.f ?hc ?_; case hc => simp (config := { implicitDefEqProofs := false, maxSteps := 2000000 }) (disch := omega) only [ps, ↓reduceIte, reduceCtorEq, Int.reduceLT, Int.reduceLE, Int.reduceEq, Nat.reduceLT, Nat.reduceLeDiff, Nat.reduceEqDiff, Int.reduceNeg, eitherK, hd, decide_true]))
  have e0 : faultR n0 n1 d0 d1 = if d0 = false ∧ d1 ≠ [] ∧ Int.gcd (Zv W n0 n1) (Zv W d0 d1) = 1 then 0 else 20 := if_pos ⟨hn, hd⟩
  cases d0
  case true =>
    rw [e0.trans (if_neg (fun c => by cases c.1))]
    (first | (refine Rn.t ?hc ?_; case hc => simp (config := { implicitDefEqProofs := false, maxSteps := 2000000 }) (disch := omega) only [ps, ↓reduceIte, reduceCtorEq, Int.reduceLT, Int.reduceLE, Int.reduceEq, Nat.reduceLT, Nat.reduceLeDiff, Nat.reduceEqDiff, Int.reduceNeg, eitherK]) | (refine Rn.f ?hc ?_; case hc => simp (config := { implicitDefEqProofs := false, maxSteps := 2000000 }) (disch := omega) only [ps, ↓reduceIte, reduceCtorEq, Int.reduceLT, Int.reduceLE, Int.reduceEq, Nat.reduceLT, Nat.reduceLeDiff, Nat.reduceEqDiff, Int.reduceNeg, eitherK]))
    exact Rn.pure _
  (first | (refine Rn.t ?hc ?_; case hc => simp (config := { implicitDefEqProofs := false, maxSteps := 2000000 }) (disch := omega) only [ps, ↓reduceIte, reduceCtorEq, Int.reduceLT, Int.reduceLE, Int.reduceEq, Nat.reduceLT, Nat.reduceLeDiff, Nat.reduceEqDiff, Int.reduceNeg, eitherK]) | (refine Rn.f ?hc ?_; case hc => simp (config := { implicitDefEqProofs := false, maxSteps := 2000000 }) (disch := omega) only [ps, ↓reduceIte, reduceCtorEq, Int.reduceLT, Int.reduceLE, Int.reduceEq, Nat.reduceLT, Nat.reduceLeDiff, Nat.reduceEqDiff, Int.reduceNeg, eitherK]))
  by_cases h0 : d1 = []
  · rw [e0.trans (if_neg (fun c => c.2.1 h0))]
    subst h0
    (first | (refine Rn.t ?hc ?_; case hc => simp (config := { implicitDefEqProofs := false, maxSteps := 2000000 }) (disch := omega) only [ps, ↓reduceIte, reduceCtorEq, Int.reduceLT, Int.reduceLE, Int.reduceEq, Nat.reduceLT, Nat.reduceLeDiff, Nat.reduceEqDiff, Int.reduceNeg, eitherK]) | (refine Rn.f ?hc ?_; case hc => simp (config := { implicitDefEqProofs := false, maxSteps := 2000000 }) (disch := omega) only [ps, ↓reduceIte, reduceCtorEq, Int.reduceLT, Int.reduceLE, Int.reduceEq, Nat.reduceLT, Nat.reduceLeDiff, Nat.reduceEqDiff, Int.reduceNeg, eitherK]))
    exact Rn.pure _
  · have l0 : 0 < d1.length := by
      cases d1 with
      | nil => exact absurd rfl h0
      | cons _ _ => simp
    have k1 := hn.1
    have k2 := hd.1
    (first | (refine Rn.t ?hc ?_; case hc => simp (config := { implicitDefEqProofs := false, maxSteps := 2000000 }) (disch := omega) only [ps, ↓reduceIte, reduceCtorEq, Int.reduceLT, Int.reduceLE, Int.reduceEq, Nat.reduceLT, Nat.reduceLeDiff, Nat.reduceEqDiff, Int.reduceNeg, eitherK]) | (refine Rn.f ?hc ?_; case hc => simp (config := { implicitDefEqProofs := false, maxSteps := 2000000 }) (disch := omega) only [ps, ↓reduceIte, reduceCtorEq, Int.reduceLT, Int.reduceLE, Int.reduceEq, Nat.reduceLT, Nat.reduceLeDiff, Nat.reduceEqDiff, Int.reduceNeg, eitherK]))
    obtain ⟨l1, p1, p2, p3⟩ := rTake_ev n0 n1 (by omega) (hn.nm da)
    obtain ⟨l2, q1, q2, q3⟩ := rTake_ev false d1 (by omega) (hd.nm db)
    obtain ⟨l, r1, r2, r3⟩ := Common_ev n0 false l1 l2 p2 q2 (by omega) (by omega)
    obtain ⟨o, s1, s2, s3⟩ := Small_ev 1 (by decide)
    have hh := Held_ev false (decide ((1 : Int) < 0)) l o r2 s2 (by omega) (by omega)
    refine Rn.bind p1 (Rn.bind q1 (Rn.bind r1 (Rn.bind s1 (Rn.bind hh ?_))))
    obtain ⟨c, hc, hcc⟩ := cmpZ_cases ((Int.gcd (Zv W n0 n1) (Zv W false d1) : Nat) : Int) 1
    rw [hc]
    by_cases hg : Int.gcd (Zv W n0 n1) (Zv W false d1) = 1
    · rw [e0.trans (if_pos ⟨rfl, h0, hg⟩)]
      (first | (refine Rn.t ?hc ?_; case hc => simp (config := { implicitDefEqProofs := false, maxSteps := 2000000 }) (disch := omega) only [ps, ↓reduceIte, reduceCtorEq, Int.reduceLT, Int.reduceLE, Int.reduceEq, Nat.reduceLT, Nat.reduceLeDiff, Nat.reduceEqDiff, Int.reduceNeg, eitherK]) | (refine Rn.f ?hc ?_; case hc => simp (config := { implicitDefEqProofs := false, maxSteps := 2000000 }) (disch := omega) only [ps, ↓reduceIte, reduceCtorEq, Int.reduceLT, Int.reduceLE, Int.reduceEq, Nat.reduceLT, Nat.reduceLeDiff, Nat.reduceEqDiff, Int.reduceNeg, eitherK]))
      exact Rn.pure _
    · rw [e0.trans (if_neg (fun c => hg c.2.2))]
      (first | (refine Rn.t ?hc ?_; case hc => simp (config := { implicitDefEqProofs := false, maxSteps := 2000000 }) (disch := omega) only [ps, ↓reduceIte, reduceCtorEq, Int.reduceLT, Int.reduceLE, Int.reduceEq, Nat.reduceLT, Nat.reduceLeDiff, Nat.reduceEqDiff, Int.reduceNeg, eitherK]) | (refine Rn.f ?hc ?_; case hc => simp (config := { implicitDefEqProofs := false, maxSteps := 2000000 }) (disch := omega) only [ps, ↓reduceIte, reduceCtorEq, Int.reduceLT, Int.reduceLE, Int.reduceEq, Nat.reduceLT, Nat.reduceLeDiff, Nat.reduceEqDiff, Int.reduceNeg, eitherK]))
      exact Rn.pure _
end
/-- A fraction's words, as a list's element. -/
abbrev RT := (Bool × List Int) × Bool × List Int
def RT.f (r : RT) : Int := faultR r.1.1 r.1.2 r.2.1 r.2.2
def RT.good (r : RT) : Prop := (r.1.2.length ≤ 9223372036854775807 ∧ Dg W r.1.2) ∧ r.2.2.length ≤ 9223372036854775807 ∧ Dg W r.2.2
section
variable {x0 x2 y0 y2 : Bool} {x1 x3 y1 y3 : List Int} {x y : Rat} (hx : Fr x0 x1 x2 x3 x) (hy : Fr y0 y1 y2 y3 y) (l1 : x1.length ≤ 72) (l3 : x3.length ≤ 72) (m1 : y1.length ≤ 72) (m3 : y3.length ≤ 72)
include hx hy l1 l3 m1 m3
end
end Go.Proofs.Ytjgpegpjmkgkkaa.Am

/- Plain reckoning: fractions made, held against one another, and of small numbers. -/
set_option linter.unusedVariables false
set_option linter.unusedSectionVars false
set_option linter.unusedSimpArgs false
set_option maxRecDepth 10000
namespace Go.Proofs.Ytjgpegpjmkgkkaa.Am
open Go

theorem ratMake_ev {n0 d0 : Bool} {n1 d1 : List Int} {x y : Int} (nx : Nm W n0 n1 x) (ny : Nm W d0 d1 y) (hx : n1.length ≤ 72) (hy : d1.length ≤ 72) (hy0 : y ≠ 0) :
    ∃ s p t r, Rn (fun k => Frat_Make k n0 n1 d0 d1) (s, p, t, r, 0) ∧ Fr s p t r (Rat.divInt x y) ∧ p.length ≤ n1.length ∧ r.length ≤ d1.length := by
  obtain ⟨s, p, t, r, e1, e2, e3, e4⟩ := Frac_ev n0 d0 n1 d1 nx ny (by omega) (by omega) hy0
  refine ⟨s, p, t, r, Rn.up (f := fun k => Frat_Make k n0 n1 d0 d1) ?_, e2, e3, e4⟩
  show Rn (fun k => brat_Make k n0 n1 d0 d1) _
  unfold brat_Make
  have c1 := check_ev n0 n1 (by omega) nx.c.1
  have c2 := check_ev d0 d1 (by omega) ny.c.1
  rw [if_pos (nx.ri hx)] at c1
  rw [if_pos (ny.ri hy)] at c2
  have hl : 0 < d1.length := by
    cases d1 with
    | nil =>
      have := ny.z
      simp only [V] at this
      exact absurd (by cases d0 <;> simp at this <;> omega) hy0
    | cons _ _ => simp
  refine Rn.bind c1 ?_
  (first | (refine Rn.t ?hc ?_; case hc => simp (config := { implicitDefEqProofs := false, maxSteps := 2000000 }) (disch := omega) only [ps, ↓reduceIte, reduceCtorEq, Int.reduceLT, Int.reduceLE, Int.reduceEq, Nat.reduceLT, Nat.reduceLeDiff, Nat.reduceEqDiff, Int.reduceNeg, eitherK]) | (refine Rn.f ?hc ?_; case hc => simp (config := { implicitDefEqProofs := false, maxSteps := 2000000 }) (disch := omega) only [ps, ↓reduceIte, reduceCtorEq, Int.reduceLT, Int.reduceLE, Int.reduceEq, Nat.reduceLT, Nat.reduceLeDiff, Nat.reduceEqDiff, Int.reduceNeg, eitherK]))
  refine Rn.bind c2 ?_
  (first | (refine Rn.t ?hc ?_; case hc => simp (config := { implicitDefEqProofs := false, maxSteps := 2000000 }) (disch := omega) only [ps, ↓reduceIte, reduceCtorEq, Int.reduceLT, Int.reduceLE, Int.reduceEq, Nat.reduceLT, Nat.reduceLeDiff, Nat.reduceEqDiff, Int.reduceNeg, eitherK]) | (refine Rn.f ?hc ?_; case hc => simp (config := { implicitDefEqProofs := false, maxSteps := 2000000 }) (disch := omega) only [ps, ↓reduceIte, reduceCtorEq, Int.reduceLT, Int.reduceLE, Int.reduceEq, Nat.reduceLT, Nat.reduceLeDiff, Nat.reduceEqDiff, Int.reduceNeg, eitherK]))
  (first | (refine Rn.t ?hc ?_; case hc => simp (config := { implicitDefEqProofs := false, maxSteps := 2000000 }) (disch := omega) only [ps, ↓reduceIte, reduceCtorEq, Int.reduceLT, Int.reduceLE, Int.reduceEq, Nat.reduceLT, Nat.reduceLeDiff, Nat.reduceEqDiff, Int.reduceNeg, eitherK]) | (refine Rn.f ?hc ?_; case hc => simp (config := { implicitDefEqProofs := false, maxSteps := 2000000 }) (disch := omega) only [ps, ↓reduceIte, reduceCtorEq, Int.reduceLT, Int.reduceLE, Int.reduceEq, Nat.reduceLT, Nat.reduceLeDiff, Nat.reduceEqDiff, Int.reduceNeg, eitherK]))
  have t1 := Take_nm nx (by omega)
  have t3 := Take_nm ny (by omega)
  have wa := rAnswer_ev e2 (by omega) (by omega)
  have ea : ansR s p t r = (s, p, t, r, 0) := if_pos ⟨by omega, by omega⟩
  rw [ea] at wa
  exact Rn.bind t1 (Rn.bind t3 (Rn.bind e1 (Rn.bind wa (Rn.pure _))))
theorem ansR_le {s t : Bool} {p r : List Int} (h1 : p.length ≤ 72) (h2 : r.length ≤ 72) : ansR s p t r = (s, p, t, r, 0) := if_pos ⟨h1, h2⟩
theorem same2_ev (a0 a2 b0 b2 : Bool) (a1 a3 b1 b3 : List Int) (h1 : a1.length ≤ 9223372036854775806) (h3 : a3.length ≤ 9223372036854775806) :
    Rn (fun k => Fshuntlaw02_same k a0 a1 a2 a3 b0 b1 b2 b3) (decide (a0 = b0 ∧ a1 = b1 ∧ a2 = b2 ∧ a3 = b3)) := by
  have hs : Rn (fun k => Fshuntref02_Same k a0 a1 a2 a3 b0 b1 b2 b3) (decide (a0 = b0 ∧ a1 = b1 ∧ a2 = b2 ∧ a3 = b3)) := by
    refine Rn.up (f := fun k => Fshuntref02_Same k a0 a1 a2 a3 b0 b1 b2 b3) ?_
    show Rn (fun k => bshuntref02_Same k a0 a1 a2 a3 b0 b1 b2 b3) _
    unfold bshuntref02_Same
    refine Rn.bind (refSame_ev a0 b0 a1 b1 h1) ?_
    by_cases h : a0 = b0 ∧ a1 = b1
    · refine Rn.t (decide_eq_true h) ?_
      refine Rn.bind (refSame_ev a2 b2 a3 b3 h3) ?_
      have e : decide (a0 = b0 ∧ a1 = b1 ∧ a2 = b2 ∧ a3 = b3) = decide (a2 = b2 ∧ a3 = b3) := by simp [h.1, h.2]
      rw [e]
      exact Rn.pure _
    · refine Rn.f (by simpa using h) ?_
      have e : decide (a0 = b0 ∧ a1 = b1 ∧ a2 = b2 ∧ a3 = b3) = false := by
        rw [decide_eq_false_iff_not]
        rintro ⟨c1, c2, _⟩
        exact h ⟨c1, c2⟩
      rw [e]
      exact Rn.pure _
  exact Rn.up (f := fun k => Fshuntlaw02_same k a0 a1 a2 a3 b0 b1 b2 b3) (Rn.bind hs (Rn.pure _))
theorem same2_t (a0 a2 : Bool) (a1 a3 : List Int) (h1 : a1.length ≤ 9223372036854775806) (h3 : a3.length ≤ 9223372036854775806) :
    Rn (fun k => Fshuntlaw02_same k a0 a1 a2 a3 a0 a1 a2 a3) true := by
  have := same2_ev a0 a2 a0 a2 a1 a3 a1 a3 h1 h3
  simpa using this
/-- The words of a law's fraction, opened. -/
theorem rt_good {x : RT} (w : Wfd (.pr (.pr .bool (.sl (.int .u32))) (.pr .bool (.sl (.int .u32)))) x) : x.good := by
  obtain ⟨d1, l1⟩ := dg_of w.1.2
  obtain ⟨d3, l3⟩ := dg_of w.2.2
  exact ⟨⟨l1, d1⟩, l3, d3⟩
end Go.Proofs.Ytjgpegpjmkgkkaa.Am

/- Plain reckoning: a number's text. -/
set_option linter.unusedVariables false
set_option linter.unusedSimpArgs false
set_option maxRecDepth 10000
namespace Go.Proofs.Ytjgpegpjmkgkkaa.Am
open Go

/-- A number's text: the digits of its magnitude, the sign ahead. -/
structure Tx (z : Int) (s : ByteArray) : Prop where
  nz : z = 0 → s = bytesOf [48]
  ex : z ≠ 0 → ∃ l, Cn 10 l ∧ V 10 l = z.natAbs ∧ s = bytesOf ((if z < 0 then [45] else []) ++ (sg l).reverse)
theorem Tx.ext {z : Int} {s t : ByteArray} (h1 : Tx z s) (h2 : Tx z t) : s = t := by
  by_cases h : z = 0
  · rw [h1.nz h, h2.nz h]
  · obtain ⟨l, a1, a2, a3⟩ := h1.ex h
    obtain ⟨m, b1, b2, b3⟩ := h2.ex h
    rw [a3, b3, Cn.ext (by decide) a1 b1 (by rw [a2, b2])]
end Go.Proofs.Ytjgpegpjmkgkkaa.Am

/- Plain reckoning: the reference's text of a number; machine numbers, both ways. -/
set_option linter.unusedVariables false
set_option linter.unusedSimpArgs false
set_option maxRecDepth 10000
namespace Go.Proofs.Ytjgpegpjmkgkkaa.Am
open Go

theorem wide_loop (k : Nat) (x0 a0 : Bool) : ∀ (d n : Nat) (u : Int) (l : List Int), 0 ≤ u ∧ u < U ^ d → u < 18446744073709551616 → d < n → l.length ≤ 1000 - d → d ≤ 100 → Dg U l → (u = 0 → Cn U l) →
    ∃ l', Lshuntref01_Wide_0 k n u x0 0 a0 l.length [] l = some (x0, 0, a0, l'.length, [], l') ∧ Cn U l' ∧ V U l' = V U l + U ^ l.length * u ∧ l'.length ≤ l.length + d := by
  intro d
  induction d with
  | zero =>
    intro n u l hu hub hn hl hd9 hd hc
    obtain ⟨n, rfl⟩ : ∃ m, n = m + 1 := ⟨n - 1, by omega⟩
    have hu0 : u = 0 := by simp at hu; omega
    subst hu0
    refine ⟨l, ?_, hc rfl, by simp, by omega⟩
    show Lshuntref01_Wide_0s k (Lshuntref01_Wide_0 k n) _ _ _ _ _ _ _ = _
    unfold Lshuntref01_Wide_0s
    simp (config := { implicitDefEqProofs := false, maxSteps := 2000000 }) (disch := omega) only [ps, ↓reduceIte, reduceCtorEq, Int.reduceLT, Int.reduceLE, Int.reduceEq, Nat.reduceLT, Nat.reduceLeDiff, Nat.reduceEqDiff, Int.reduceNeg, eitherK]
  | succ d ih =>
    intro n u l hu hub hn hl hd9 hd hc
    obtain ⟨n, rfl⟩ : ∃ m, n = m + 1 := ⟨n - 1, by omega⟩
    by_cases hu0 : u = 0
    · subst hu0
      refine ⟨l, ?_, hc rfl, by simp, by omega⟩
      show Lshuntref01_Wide_0s k (Lshuntref01_Wide_0 k n) _ _ _ _ _ _ _ = _
      unfold Lshuntref01_Wide_0s
      simp (config := { implicitDefEqProofs := false, maxSteps := 2000000 }) (disch := omega) only [ps, ↓reduceIte, reduceCtorEq, Int.reduceLT, Int.reduceLE, Int.reduceEq, Nat.reduceLT, Nat.reduceLeDiff, Nat.reduceEqDiff, Int.reduceNeg, eitherK]
    · have hu2 : u / 65536 < U ^ d := by
        have := hu.2
        rw [Int.pow_succ] at this
        unfold U at this ⊢
        omega
      have hdm := Int.emod_add_mul_ediv u 65536
      have hlen : (l ++ [u % 65536]).length = l.length + 1 := by simp
      have hdl : Dg U (l ++ [u % 65536]) := hd.snoc (by unfold U; omega)
      obtain ⟨l', q1, q2, q3, q4⟩ := ih n (u / 65536) (l ++ [u % 65536]) ⟨by omega, hu2⟩ (by omega) (by omega) (by rw [hlen]; omega) (by omega) hdl (fun h => ⟨hdl, (Cn.last hdl).2 (.inr ⟨l, u % 65536, rfl, by omega⟩)⟩)
      refine ⟨l', ?_, q2, ?_, by rw [hlen] at q4; omega⟩
      · rw [hlen] at q1
        rw [← q1]
        show Lshuntref01_Wide_0s k (Lshuntref01_Wide_0 k n) _ _ _ _ _ _ _ = _
        unfold Lshuntref01_Wide_0s
        have ht : l.take l.length = l := List.take_length
        simp (config := { implicitDefEqProofs := false, maxSteps := 2000000 }) (disch := omega) only [ps, ↓reduceIte, reduceCtorEq, Int.reduceLT, Int.reduceLE, Int.reduceEq, Nat.reduceLT, Nat.reduceLeDiff, Nat.reduceEqDiff, Int.reduceNeg, eitherK, tdiv_pos, tmod_pos, ht, List.take_succ_cons, List.length_cons]
      · rw [q3, V_snoc, hlen, Int.pow_succ]
        unfold U
        grind
theorem rWide_ev (v : Int) (hv : -9223372036854775808 ≤ v ∧ v ≤ 9223372036854775807) : ∃ l, Rn (fun k => Fshuntref01_Wide k v) (decide (v < 0), l) ∧ Nm U (decide (v < 0)) l v ∧ l.length ≤ 4 := by
  have main : ∀ (x0 : Bool) (u : Int), 0 ≤ u ∧ u < 18446744073709551616 → ∃ l, Cn U l ∧ V U l = u ∧ l.length ≤ 4 ∧ ∀ k, 5 ≤ k → Lshuntref01_Wide_0 k k u false 0 x0 0 [] [] = some (false, 0, x0, l.length, [], l) := by
    intro x0 u hu
    have h4 : u < U ^ 4 := by unfold U; simpa using hu.2
    obtain ⟨l, q1, q2, q3, q4⟩ := wide_loop 5 false x0 4 5 u [] ⟨hu.1, h4⟩ hu.2 (by omega) (by simp) (by omega) Dg.nil (fun _ => Cn.nil)
    refine ⟨l, q2, by rw [q3]; simp [V], by simpa using q4, fun k hk => ?_⟩
    obtain ⟨l', r1, r2, r3, r4⟩ := wide_loop k false x0 4 k u [] ⟨hu.1, h4⟩ hu.2 (by omega) (by simp) (by omega) Dg.nil (fun _ => Cn.nil)
    have : l' = l := Cn.ext (by decide) r2 q2 (by rw [r3, q3])
    subst this
    exact r1
  by_cases h : v < 0
  · obtain ⟨l, h1, h2, h3, h4⟩ := main true (-v) (by omega)
    refine ⟨l, ?_, Nm.of (by decide) h1 (by omega), h3⟩
    refine Rn.up (f := fun k => Fshuntref01_Wide k v) (Rn.eq 5 fun k hk => ?_)
    show bshuntref01_Wide k v = _
    unfold bshuntref01_Wide
    have e1 : IntKind.u64.wrap (0 - IntKind.u64.wrap v) = -v := by rw [wrap_u64, wrap_u64]; omega
    have hh := h4 k hk
    rw [if_pos (by simpa using h), e1]
    simp (config := { implicitDefEqProofs := false, maxSteps := 2000000 }) (disch := omega) only [ps, ↓reduceIte, reduceCtorEq, Int.reduceLT, Int.reduceLE, Int.reduceEq, Nat.reduceLT, Nat.reduceLeDiff, Nat.reduceEqDiff, Int.reduceNeg, eitherK, hh, List.take_length, h, decide_true, decide_false]
  · obtain ⟨l, h1, h2, h3, h4⟩ := main false v (by omega)
    refine ⟨l, ?_, Nm.of (by decide) h1 (by omega), h3⟩
    refine Rn.up (f := fun k => Fshuntref01_Wide k v) (Rn.eq 5 fun k hk => ?_)
    show bshuntref01_Wide k v = _
    unfold bshuntref01_Wide
    have hh := h4 k hk
    have e1 : IntKind.u64.wrap v = v := wrap_u64_id (by omega)
    rw [if_neg (by simpa using h), e1]
    simp (config := { implicitDefEqProofs := false, maxSteps := 2000000 }) (disch := omega) only [ps, ↓reduceIte, reduceCtorEq, Int.reduceLT, Int.reduceLE, Int.reduceEq, Nat.reduceLT, Nat.reduceLeDiff, Nat.reduceEqDiff, Int.reduceNeg, eitherK, hh, List.take_length, h, decide_true, decide_false]
end Go.Proofs.Ytjgpegpjmkgkkaa.Am

/- Plain reckoning: numbers as machine words of 64 bits. -/
set_option linter.unusedVariables false
set_option linter.unusedSimpArgs false
set_option maxRecDepth 10000
namespace Go.Proofs.Ytjgpegpjmkgkkaa.Am
open Go

theorem i64_loop (k : Nat) (z0 : Bool) (z1 : List Int) (hl : z1.length ≤ 2) (hd : Dg W z1) : ∀ (m n : Nat) (u : Int), m ≤ z1.length → m < n → u = V W (z1.drop m) → Lbig_Int_Int64_awf_0 k n u ((m : Int) - 1) z0 z1 = some (V W z1, z0, z1) := by
  intro m
  induction m with
  | zero =>
    intro n u hm hn hu
    obtain ⟨n, rfl⟩ : ∃ m, n = m + 1 := ⟨n - 1, by omega⟩
    show Lbig_Int_Int64_awf_0s k (Lbig_Int_Int64_awf_0 k n) _ _ _ _ = _
    unfold Lbig_Int_Int64_awf_0s
    rw [hu]
    simp (config := { implicitDefEqProofs := false, maxSteps := 2000000 }) (disch := omega) only [ps, ↓reduceIte, reduceCtorEq, Int.reduceLT, Int.reduceLE, Int.reduceEq, Nat.reduceLT, Nat.reduceLeDiff, Nat.reduceEqDiff, Int.reduceNeg, eitherK]
    rfl
  | succ i ih =>
    intro n u hm hn hu
    obtain ⟨n, rfl⟩ : ∃ m, n = m + 1 := ⟨n - 1, by omega⟩
    obtain ⟨x, hx⟩ := get_of (show i < z1.length by omega)
    have hxb := hd.get hx
    have h1 : (((i + 1 : Nat) : Int) - 1) = (i : Int) := by omega
    have hub : 0 ≤ u ∧ u < 4294967296 := by
      have a1 := V_nonneg (B := W) (by decide) (hd.drop (i + 1))
      have a2 := V_lt (B := W) (by decide) (hd.drop (i + 1))
      have a3 := pow_mono (B := W) (by decide) (show (z1.drop (i + 1)).length ≤ 1 by rw [List.length_drop]; omega)
      rw [← hu] at a1 a2
      have a4 : W ^ 1 = 4294967296 := by decide
      omega
    unfold W at hxb
    have e0 : IntKind.u64.wrap (u * 4294967296) = u * 4294967296 := wrap_u64_id (by omega)
    have e2 : IntKind.u64.wrap x = x := wrap_u64_id (by omega)
    have e1 := or_add (x := u) (y := x) (by omega) (by omega)
    have e3 : IntKind.u64.wrap (u * 4294967296 + x) = u * 4294967296 + x := wrap_u64_id (by omega)
    have key := ih n (u * 4294967296 + x) (by omega) (by omega) (by rw [V_drop hx, ← hu]; unfold W; omega)
    show Lbig_Int_Int64_awf_0s k (Lbig_Int_Int64_awf_0 k n) _ _ _ _ = _
    unfold Lbig_Int_Int64_awf_0s
    simp (config := { implicitDefEqProofs := false, maxSteps := 2000000 }) (disch := omega) only [ps, ↓reduceIte, reduceCtorEq, Int.reduceLT, Int.reduceLE, Int.reduceEq, Nat.reduceLT, Nat.reduceLeDiff, Nat.reduceEqDiff, Int.reduceNeg, eitherK, hx, h1, e0, e2, e1, e3, key]
theorem wrap_i64' (x : Int) : IntKind.i64.wrap x = (x + 9223372036854775808) % 18446744073709551616 - 9223372036854775808 := by
  simp only [IntKind.wrap, IntKind.bits, IntKind.signed]
  simp
  omega
theorem rw_loop (k : Nat) (a0 : Bool) (a1 : List Int) (hl : a1.length ≤ 1000) (hd : Dg U a1) (hb : V U a1 ≤ 9223372036854775808) : ∀ (m n : Nat) (u : Int), m ≤ a1.length → m < n → u = V U (a1.drop m) → Lshuntref01_Whole_0 k n u ((m : Int) - 1) a0 a1 = some (V U a1, a0, a1) := by
  intro m
  induction m with
  | zero =>
    intro n u hm hn hu
    obtain ⟨n, rfl⟩ : ∃ m, n = m + 1 := ⟨n - 1, by omega⟩
    show Lshuntref01_Whole_0s k (Lshuntref01_Whole_0 k n) _ _ _ _ = _
    unfold Lshuntref01_Whole_0s
    rw [hu]
    simp (config := { implicitDefEqProofs := false, maxSteps := 2000000 }) (disch := omega) only [ps, ↓reduceIte, reduceCtorEq, Int.reduceLT, Int.reduceLE, Int.reduceEq, Nat.reduceLT, Nat.reduceLeDiff, Nat.reduceEqDiff, Int.reduceNeg, eitherK]
    rfl
  | succ i ih =>
    intro n u hm hn hu
    obtain ⟨n, rfl⟩ : ∃ m, n = m + 1 := ⟨n - 1, by omega⟩
    obtain ⟨x, hx⟩ := get_of (show i < a1.length by omega)
    have hxb := hd.get hx
    have h1 : (((i + 1 : Nat) : Int) - 1) = (i : Int) := by omega
    have hs := V_split (B := U) a1 i (by omega)
    have p1 := V_nonneg (B := U) (by decide) (hd.take i)
    have p2 := V_nonneg (B := U) (by decide) (hd.drop i)
    have p3 := V_nonneg (B := U) (by decide) (hd.drop (i + 1))
    have p4 : V U (a1.drop i) ≤ V U a1 := by
      have h5 : 1 * V U (a1.drop i) ≤ U ^ i * V U (a1.drop i) := Int.mul_le_mul_of_nonneg_right (by have := Upos i; omega) p2
      omega
    rw [V_drop hx, ← hu] at p4 p2
    rw [← hu] at p3
    have p5 : x + U * u ≤ 9223372036854775808 := by omega
    unfold U at hxb p5
    have e0 : IntKind.u64.wrap (u * 65536) = u * 65536 := wrap_u64_id (by omega)
    have e2 : IntKind.u64.wrap x = x := wrap_u64_id (by omega)
    have e3 : IntKind.u64.wrap (u * 65536 + x) = u * 65536 + x := wrap_u64_id (by omega)
    have key := ih n (u * 65536 + x) (by omega) (by omega) (by rw [V_drop hx, ← hu]; unfold U; omega)
    show Lshuntref01_Whole_0s k (Lshuntref01_Whole_0 k n) _ _ _ _ = _
    unfold Lshuntref01_Whole_0s
    simp (config := { implicitDefEqProofs := false, maxSteps := 2000000 }) (disch := omega) only [ps, ↓reduceIte, reduceCtorEq, Int.reduceLT, Int.reduceLE, Int.reduceEq, Nat.reduceLT, Nat.reduceLeDiff, Nat.reduceEqDiff, Int.reduceNeg, eitherK, hx, h1, e0, e2, e3, key]
theorem rWhole_ev (a0 : Bool) (a1 : List Int) (hl : a1.length ≤ 1000) {z : Int} (hn : Nm U a0 a1 z) :
    Rn (fun k => Fshuntref01_Whole k a0 a1) (if -9223372036854775808 ≤ z ∧ z ≤ 9223372036854775807 then (z, true) else (0, false)) := by
  have p0 := V_nonneg (B := U) (by decide) hn.c.1
  have hzz := hn.z
  obtain ⟨l1, h1, h2, h3⟩ := rWide_ev (-9223372036854775808) (by decide)
  obtain ⟨l2, g1, g2, g3⟩ := rWide_ev 9223372036854775807 (by decide)
  have e1 := Held_ev a0 _ a1 l1 hn h2 (by omega) (by omega)
  have e2 := Held_ev a0 _ a1 l2 hn g2 (by omega) (by omega)
  obtain ⟨c1, w1, f1⟩ := cmpZ_cases z (-9223372036854775808)
  obtain ⟨c2, w2, f2⟩ := cmpZ_cases z 9223372036854775807
  rw [w1] at e1
  rw [w2] at e2
  refine Rn.up (f := fun k => Fshuntref01_Whole k a0 a1) ?_
  show Rn (fun k => bshuntref01_Whole k a0 a1) _
  unfold bshuntref01_Whole
  refine Rn.bind h1 (Rn.bind e1 ?_)
  by_cases hlo : -9223372036854775808 ≤ z
  · (first | (refine Rn.t ?hc ?_; case hc => simp (config := { implicitDefEqProofs := false, maxSteps := 2000000 }) (disch := omega) only [ps, ↓reduceIte, reduceCtorEq, Int.reduceLT, Int.reduceLE, Int.reduceEq, Nat.reduceLT, Nat.reduceLeDiff, Nat.reduceEqDiff, Int.reduceNeg, eitherK]) | (refine Rn.f ?hc ?_; case hc => simp (config := { implicitDefEqProofs := false, maxSteps := 2000000 }) (disch := omega) only [ps, ↓reduceIte, reduceCtorEq, Int.reduceLT, Int.reduceLE, Int.reduceEq, Nat.reduceLT, Nat.reduceLeDiff, Nat.reduceEqDiff, Int.reduceNeg, eitherK]))
    refine Rn.bind g1 (Rn.bind e2 ?_)
    by_cases hhi : z ≤ 9223372036854775807
    · (first | (refine Rn.t ?hc ?_; case hc => simp (config := { implicitDefEqProofs := false, maxSteps := 2000000 }) (disch := omega) only [ps, ↓reduceIte, reduceCtorEq, Int.reduceLT, Int.reduceLE, Int.reduceEq, Nat.reduceLT, Nat.reduceLeDiff, Nat.reduceEqDiff, Int.reduceNeg, eitherK]) | (refine Rn.f ?hc ?_; case hc => simp (config := { implicitDefEqProofs := false, maxSteps := 2000000 }) (disch := omega) only [ps, ↓reduceIte, reduceCtorEq, Int.reduceLT, Int.reduceLE, Int.reduceEq, Nat.reduceLT, Nat.reduceLeDiff, Nat.reduceEqDiff, Int.reduceNeg, eitherK]))
      rw [if_pos ⟨hlo, hhi⟩]
      have hb : V U a1 ≤ 9223372036854775808 := by cases a0 <;> simp at hzz <;> omega
      have hr : Rn (fun k => Lshuntref01_Whole_0 k k 0 (IntKind.i64.wrap ((a1.length : Int) - 1)) a0 a1) (V U a1, a0, a1) := by
        refine Rn.eq (a1.length + 1) fun k hk => ?_
        rw [wrap_i64 (by omega)]
        exact rw_loop k a0 a1 hl hn.c.1 hb a1.length k 0 (Nat.le_refl _) (by omega) (by rw [List.drop_length]; rfl)
      refine Rn.bind hr ?_
      cases a0
      · simp only [Bool.false_eq_true, if_false] at hzz ⊢
        rw [wrap_i64 (by omega), hzz]
        exact Rn.pure _
      · simp only [if_true] at hzz ⊢
        have e : IntKind.i64.wrap (IntKind.u64.wrap (0 - V U a1)) = z := by rw [wrap_i64', wrap_u64]; omega
        rw [e]
        exact Rn.pure _
    · (first | (refine Rn.t ?hc ?_; case hc => simp (config := { implicitDefEqProofs := false, maxSteps := 2000000 }) (disch := omega) only [ps, ↓reduceIte, reduceCtorEq, Int.reduceLT, Int.reduceLE, Int.reduceEq, Nat.reduceLT, Nat.reduceLeDiff, Nat.reduceEqDiff, Int.reduceNeg, eitherK]) | (refine Rn.f ?hc ?_; case hc => simp (config := { implicitDefEqProofs := false, maxSteps := 2000000 }) (disch := omega) only [ps, ↓reduceIte, reduceCtorEq, Int.reduceLT, Int.reduceLE, Int.reduceEq, Nat.reduceLT, Nat.reduceLeDiff, Nat.reduceEqDiff, Int.reduceNeg, eitherK]))
      rw [if_neg (by omega)]
      exact Rn.pure _
  · (first | (refine Rn.t ?hc ?_; case hc => simp (config := { implicitDefEqProofs := false, maxSteps := 2000000 }) (disch := omega) only [ps, ↓reduceIte, reduceCtorEq, Int.reduceLT, Int.reduceLE, Int.reduceEq, Nat.reduceLT, Nat.reduceLeDiff, Nat.reduceEqDiff, Int.reduceNeg, eitherK]) | (refine Rn.f ?hc ?_; case hc => simp (config := { implicitDefEqProofs := false, maxSteps := 2000000 }) (disch := omega) only [ps, ↓reduceIte, reduceCtorEq, Int.reduceLT, Int.reduceLE, Int.reduceEq, Nat.reduceLT, Nat.reduceLeDiff, Nat.reduceEqDiff, Int.reduceNeg, eitherK]))
    rw [if_neg (by omega)]
    exact Rn.pure _
end Go.Proofs.Ytjgpegpjmkgkkaa.Am

/- Plain reckoning: a fraction rounded to the grid. -/
set_option linter.unusedVariables false
set_option linter.unusedSectionVars false
set_option linter.unusedSimpArgs false
set_option maxRecDepth 10000
namespace Go.Proofs.Ytjgpegpjmkgkkaa.Am
open Go

/-- The whole number nearest to x over d, of two the even one. -/
def nearI (x d : Int) : Int := if d < 2 * (x.tmod d).natAbs ∨ (2 * (x.tmod d).natAbs = d ∧ x.tdiv d % 2 ≠ 0) then x.tdiv d + x.sign else x.tdiv d
def gridZ (z : Int) : Int × Int := if -1000000000000000000 ≤ z ∧ z ≤ 1000000000000000000 then (z, 0) else (0, 4)
theorem bigInt64_ev {z0 : Bool} {z1 : List Int} {z : Int} (hn : Nm W z0 z1 z) (h1000 : z1.length ≤ 1000000) :
    ∃ v ok, Rn (fun k => Fbig_Int_Int64_awf k z0 z1) (v, ok, z0, z1) ∧ (ok = decide (-9223372036854775808 ≤ z ∧ z ≤ 9223372036854775807)) ∧ (ok = true → v = z) := by
  have hab := hn.abs (B := W) (by decide)
  have hng := hn.neg (B := W) (by decide)
  have p0 := V_nonneg (B := W) (by decide) hn.c.1
  have hzz := hn.z
  by_cases h2 : z1.length ≤ 2
  · have hb : V W z1 < 18446744073709551616 := by
      have a2 := V_lt (B := W) (by decide) hn.c.1
      have a3 := pow_mono (B := W) (by decide) h2
      have a4 : W ^ 2 = 18446744073709551616 := by decide
      omega
    have hr : Rn (fun k => Fbig_Int_Int64_awf k z0 z1) (if z0 then (IntKind.i64.wrap (0 - IntKind.i64.wrap (V W z1)), decide (V W z1 ≤ 9223372036854775808), z0, z1) else (IntKind.i64.wrap (V W z1), decide (V W z1 < 9223372036854775808), z0, z1)) := by
      refine Rn.up (f := fun k => Fbig_Int_Int64_awf k z0 z1) (Rn.eq (z1.length + 1) fun k hk => ?_)
      show bbig_Int_Int64_awf k z0 z1 = _
      unfold bbig_Int_Int64_awf
      have hl := i64_loop k z0 z1 h2 hn.c.1 z1.length k 0 (Nat.le_refl _) (by omega) (by rw [List.drop_length]; rfl)
      cases z0
      · simp (config := { implicitDefEqProofs := false, maxSteps := 2000000 }) (disch := omega) only [ps, ↓reduceIte, reduceCtorEq, Int.reduceLT, Int.reduceLE, Int.reduceEq, Nat.reduceLT, Nat.reduceLeDiff, Nat.reduceEqDiff, Int.reduceNeg, eitherK, hl]
      · simp (config := { implicitDefEqProofs := false, maxSteps := 2000000 }) (disch := omega) only [ps, ↓reduceIte, reduceCtorEq, Int.reduceLT, Int.reduceLE, Int.reduceEq, Nat.reduceLT, Nat.reduceLeDiff, Nat.reduceEqDiff, Int.reduceNeg, eitherK, hl]
    cases z0
    · simp only [Bool.false_eq_true, if_false] at hzz hr
      refine ⟨_, _, hr, ?_, ?_⟩
      · exact decide_eq_decide.2 (by omega)
      · intro h
        have := of_decide_eq_true h
        rw [wrap_i64 (by omega)]; exact hzz
    · simp only [if_true] at hzz hr
      refine ⟨_, _, hr, ?_, ?_⟩
      · exact decide_eq_decide.2 (by omega)
      · intro h
        have := of_decide_eq_true h
        rw [wrap_i64', wrap_i64']; omega
  · have hbig : 18446744073709551616 ≤ V W z1 := by
      have a2 := hn.c.ge (B := W) (by decide) (by rintro rfl; simp at h2)
      have a3 := pow_mono (B := W) (by decide) (show 2 ≤ z1.length - 1 by omega)
      have a4 : W ^ 2 = 18446744073709551616 := by decide
      omega
    refine ⟨0, false, Rn.up (f := fun k => Fbig_Int_Int64_awf k z0 z1) ?_, ?_, fun h => by cases h⟩
    · show Rn (fun k => bbig_Int_Int64_awf k z0 z1) _
      unfold bbig_Int_Int64_awf
      (first | (refine Rn.t ?hc ?_; case hc => simp (config := { implicitDefEqProofs := false, maxSteps := 2000000 }) (disch := omega) only [ps, ↓reduceIte, reduceCtorEq, Int.reduceLT, Int.reduceLE, Int.reduceEq, Nat.reduceLT, Nat.reduceLeDiff, Nat.reduceEqDiff, Int.reduceNeg, eitherK]) | (refine Rn.f ?hc ?_; case hc => simp (config := { implicitDefEqProofs := false, maxSteps := 2000000 }) (disch := omega) only [ps, ↓reduceIte, reduceCtorEq, Int.reduceLT, Int.reduceLE, Int.reduceEq, Nat.reduceLT, Nat.reduceLeDiff, Nat.reduceEqDiff, Int.reduceNeg, eitherK]))
      exact Rn.pure _
    · rw [eq_comm, decide_eq_false_iff_not]; omega
theorem Grid_ev {z0 : Bool} {z1 : List Int} {z : Int} (hn : Nm W z0 z1 z) (hl : z1.length ≤ 1000000) : Rn (fun k => Frat_Grid_awf k z0 z1) ((gridZ z).1, (gridZ z).2, z0, z1) := by
  obtain ⟨v, ok, h1, h2, h3⟩ := bigInt64_ev hn hl
  refine Rn.up (f := fun k => Frat_Grid_awf k z0 z1) ?_
  show Rn (fun k => brat_Grid_awf k z0 z1) _
  unfold brat_Grid_awf
  refine Rn.bind h1 ?_
  by_cases hok : -9223372036854775808 ≤ z ∧ z ≤ 9223372036854775807
  · rw [decide_eq_true hok] at h2
    subst h2
    have hv := h3 rfl
    subst hv
    (first | (refine Rn.t ?hc ?_; case hc => simp (config := { implicitDefEqProofs := false, maxSteps := 2000000 }) (disch := omega) only [ps, ↓reduceIte, reduceCtorEq, Int.reduceLT, Int.reduceLE, Int.reduceEq, Nat.reduceLT, Nat.reduceLeDiff, Nat.reduceEqDiff, Int.reduceNeg, eitherK]) | (refine Rn.f ?hc ?_; case hc => simp (config := { implicitDefEqProofs := false, maxSteps := 2000000 }) (disch := omega) only [ps, ↓reduceIte, reduceCtorEq, Int.reduceLT, Int.reduceLE, Int.reduceEq, Nat.reduceLT, Nat.reduceLeDiff, Nat.reduceEqDiff, Int.reduceNeg, eitherK]))
    by_cases h4 : v ≤ 1000000000000000000
    · (first | (refine Rn.t ?hc ?_; case hc => simp (config := { implicitDefEqProofs := false, maxSteps := 2000000 }) (disch := omega) only [ps, ↓reduceIte, reduceCtorEq, Int.reduceLT, Int.reduceLE, Int.reduceEq, Nat.reduceLT, Nat.reduceLeDiff, Nat.reduceEqDiff, Int.reduceNeg, eitherK]) | (refine Rn.f ?hc ?_; case hc => simp (config := { implicitDefEqProofs := false, maxSteps := 2000000 }) (disch := omega) only [ps, ↓reduceIte, reduceCtorEq, Int.reduceLT, Int.reduceLE, Int.reduceEq, Nat.reduceLT, Nat.reduceLeDiff, Nat.reduceEqDiff, Int.reduceNeg, eitherK]))
      by_cases h5 : -1000000000000000000 ≤ v
      · have e : gridZ v = (v, 0) := if_pos ⟨h5, h4⟩
        rw [e]
        (first | (refine Rn.t ?hc ?_; case hc => simp (config := { implicitDefEqProofs := false, maxSteps := 2000000 }) (disch := omega) only [ps, ↓reduceIte, reduceCtorEq, Int.reduceLT, Int.reduceLE, Int.reduceEq, Nat.reduceLT, Nat.reduceLeDiff, Nat.reduceEqDiff, Int.reduceNeg, eitherK]) | (refine Rn.f ?hc ?_; case hc => simp (config := { implicitDefEqProofs := false, maxSteps := 2000000 }) (disch := omega) only [ps, ↓reduceIte, reduceCtorEq, Int.reduceLT, Int.reduceLE, Int.reduceEq, Nat.reduceLT, Nat.reduceLeDiff, Nat.reduceEqDiff, Int.reduceNeg, eitherK]))
        exact Rn.pure _
      · have e : gridZ v = (0, 4) := if_neg (fun c => h5 c.1)
        rw [e]
        (first | (refine Rn.t ?hc ?_; case hc => simp (config := { implicitDefEqProofs := false, maxSteps := 2000000 }) (disch := omega) only [ps, ↓reduceIte, reduceCtorEq, Int.reduceLT, Int.reduceLE, Int.reduceEq, Nat.reduceLT, Nat.reduceLeDiff, Nat.reduceEqDiff, Int.reduceNeg, eitherK]) | (refine Rn.f ?hc ?_; case hc => simp (config := { implicitDefEqProofs := false, maxSteps := 2000000 }) (disch := omega) only [ps, ↓reduceIte, reduceCtorEq, Int.reduceLT, Int.reduceLE, Int.reduceEq, Nat.reduceLT, Nat.reduceLeDiff, Nat.reduceEqDiff, Int.reduceNeg, eitherK]))
        exact Rn.pure _
    · have e : gridZ v = (0, 4) := if_neg (fun c => h4 c.2)
      rw [e]
      (first | (refine Rn.t ?hc ?_; case hc => simp (config := { implicitDefEqProofs := false, maxSteps := 2000000 }) (disch := omega) only [ps, ↓reduceIte, reduceCtorEq, Int.reduceLT, Int.reduceLE, Int.reduceEq, Nat.reduceLT, Nat.reduceLeDiff, Nat.reduceEqDiff, Int.reduceNeg, eitherK]) | (refine Rn.f ?hc ?_; case hc => simp (config := { implicitDefEqProofs := false, maxSteps := 2000000 }) (disch := omega) only [ps, ↓reduceIte, reduceCtorEq, Int.reduceLT, Int.reduceLE, Int.reduceEq, Nat.reduceLT, Nat.reduceLeDiff, Nat.reduceEqDiff, Int.reduceNeg, eitherK]))
      exact Rn.pure _
  · rw [decide_eq_false hok] at h2
    subst h2
    have e : gridZ z = (0, 4) := if_neg (by omega)
    rw [e]
    (first | (refine Rn.t ?hc ?_; case hc => simp (config := { implicitDefEqProofs := false, maxSteps := 2000000 }) (disch := omega) only [ps, ↓reduceIte, reduceCtorEq, Int.reduceLT, Int.reduceLE, Int.reduceEq, Nat.reduceLT, Nat.reduceLeDiff, Nat.reduceEqDiff, Int.reduceNeg, eitherK]) | (refine Rn.f ?hc ?_; case hc => simp (config := { implicitDefEqProofs := false, maxSteps := 2000000 }) (disch := omega) only [ps, ↓reduceIte, reduceCtorEq, Int.reduceLT, Int.reduceLE, Int.reduceEq, Nat.reduceLT, Nat.reduceLeDiff, Nat.reduceEqDiff, Int.reduceNeg, eitherK]))
    exact Rn.pure _
theorem Sign1_ev {z0 : Bool} {z1 : List Int} {z : Int} (hn : Nm W z0 z1 z) : Rn (fun k => Fbig_Int_Sign_awf k z0 z1) (z.sign, z0, z1) := by
  refine Rn.up (f := fun k => Fbig_Int_Sign_awf k z0 z1) ?_
  show Rn (fun k => bbig_Int_Sign_awf k z0 z1) _
  unfold bbig_Int_Sign_awf
  have hnil := hn.c.nil_iff (B := W) (by decide)
  have hab := hn.abs (B := W) (by decide)
  have hng := hn.neg (B := W) (by decide)
  cases z1 with
  | nil =>
    have hz : z = 0 := by have := hnil.1 rfl; omega
    subst hz
    simp (config := { implicitDefEqProofs := false, maxSteps := 2000000 }) (disch := omega) only [ps, ↓reduceIte, reduceCtorEq, Int.reduceLT, Int.reduceLE, Int.reduceEq, Nat.reduceLT, Nat.reduceLeDiff, Nat.reduceEqDiff, Int.reduceNeg, eitherK]
    exact Rn.pure _
  | cons y r =>
    have hl : (y :: r).length = r.length + 1 := rfl
    have hz : z ≠ 0 := by
      intro h
      have := hnil.2 (by rw [hab, h]; rfl)
      cases this
    cases z0
    · have : z.sign = 1 := Int.sign_eq_one_of_pos (by have : ¬ z < 0 := by simpa using hng
                                                      omega)
      rw [this]
      simp (config := { implicitDefEqProofs := false, maxSteps := 2000000 }) (disch := omega) only [ps, ↓reduceIte, reduceCtorEq, Int.reduceLT, Int.reduceLE, Int.reduceEq, Nat.reduceLT, Nat.reduceLeDiff, Nat.reduceEqDiff, Int.reduceNeg, eitherK, hl]
      exact Rn.pure _
    · have : z.sign = -1 := Int.sign_eq_neg_one_of_neg (by simpa using hng)
      rw [this]
      simp (config := { implicitDefEqProofs := false, maxSteps := 2000000 }) (disch := omega) only [ps, ↓reduceIte, reduceCtorEq, Int.reduceLT, Int.reduceLE, Int.reduceEq, Nat.reduceLT, Nat.reduceLeDiff, Nat.reduceEqDiff, Int.reduceNeg, eitherK, hl]
      exact Rn.pure _
theorem Odd_ev {z0 : Bool} {z1 : List Int} {z : Int} (hn : Nm W z0 z1 z) : Rn (fun k => Fbig_Int_Odd_awf k z0 z1) (decide (z % 2 ≠ 0), z0, z1) := by
  refine Rn.up (f := fun k => Fbig_Int_Odd_awf k z0 z1) ?_
  show Rn (fun k => bbig_Int_Odd_awf k z0 z1) _
  unfold bbig_Int_Odd_awf
  have hab := hn.abs (B := W) (by decide)
  cases z1 with
  | nil =>
    have hz : z = 0 := by simp [V] at hab; omega
    subst hz
    (first | (refine Rn.t ?hc ?_; case hc => simp (config := { implicitDefEqProofs := false, maxSteps := 2000000 }) (disch := omega) only [ps, ↓reduceIte, reduceCtorEq, Int.reduceLT, Int.reduceLE, Int.reduceEq, Nat.reduceLT, Nat.reduceLeDiff, Nat.reduceEqDiff, Int.reduceNeg, eitherK]) | (refine Rn.f ?hc ?_; case hc => simp (config := { implicitDefEqProofs := false, maxSteps := 2000000 }) (disch := omega) only [ps, ↓reduceIte, reduceCtorEq, Int.reduceLT, Int.reduceLE, Int.reduceEq, Nat.reduceLT, Nat.reduceLeDiff, Nat.reduceEqDiff, Int.reduceNeg, eitherK]))
    exact Rn.pure _
  | cons y r =>
    have hl : (y :: r).length = r.length + 1 := rfl
    have hy := hn.c.1.head
    have hyW : y < 4294967296 := hy.2
    have hp : z % 2 = y % 2 := by
      simp only [V] at hab
      unfold W at hab
      omega
    have hand : (((BitVec.toNat ((BitVec.ofInt 32 y) &&& (BitVec.ofInt 32 (1 : Int)))) : Nat) : Int) = y % 2 := by
      obtain ⟨a, rfl⟩ := Int.eq_ofNat_of_zero_le hy.1
      have h1 : (BitVec.ofInt 32 (a : Int)).toNat = a := by rw [BitVec.toNat_ofInt]; omega
      have h2 : (BitVec.ofInt 32 (1 : Int)).toNat = 1 := by decide
      rw [BitVec.toNat_and, h1, h2, Nat.and_one_is_mod]
      omega
    (first | (refine Rn.t ?hc ?_; case hc => simp (config := { implicitDefEqProofs := false, maxSteps := 2000000 }) (disch := omega) only [ps, ↓reduceIte, reduceCtorEq, Int.reduceLT, Int.reduceLE, Int.reduceEq, Nat.reduceLT, Nat.reduceLeDiff, Nat.reduceEqDiff, Int.reduceNeg, eitherK, hl]) | (refine Rn.f ?hc ?_; case hc => simp (config := { implicitDefEqProofs := false, maxSteps := 2000000 }) (disch := omega) only [ps, ↓reduceIte, reduceCtorEq, Int.reduceLT, Int.reduceLE, Int.reduceEq, Nat.reduceLT, Nat.reduceLeDiff, Nat.reduceEqDiff, Int.reduceNeg, eitherK, hl]))
    refine Rn.at (x := y) rfl ?_
    have e : ((IntKind.wrap .u32 (((BitVec.toNat ((BitVec.ofInt 32 y) &&& (BitVec.ofInt 32 (1 : Int)))) : Nat) : Int)) == (1 : Int)) = decide (z % 2 ≠ 0) := by
      rw [hand, wrap_u32_id (by omega), hp]
      have : (y % 2 == 1) = decide (y % 2 = 1) := rfl
      rw [this]
      exact decide_eq_decide.2 (by omega)
    rw [e]
    exact Rn.pure _
theorem near_ev {n0 : Bool} {n1 d1 : List Int} {x d : Int} (nx : Nm W n0 n1 x) (nd : Nm W false d1 d) (hx : n1.length ≤ 1000000) (hd : d1.length ≤ 1000000) (h0 : 0 < d) :
    ∃ s l, Rn (fun k => Frat_Near_ddu k n0 n1 false d1) (n0, n1, false, d1, s, l) ∧ Nm W s l (nearI x d) ∧ l.length ≤ n1.length + 3 := by
  have hne : d1 ≠ [] := by
    rintro rfl
    have := nd.z
    simp [V] at this
    omega
  obtain ⟨s, q, t, r, a1, a2, a3, a4, a5⟩ := QuoRem_ev false n0 false false n1 d1 nx nd (by omega) (by omega) hne
  have hr0 : Nm W (sgn false r) (tl r) ((x.tmod d).natAbs : Int) := (sgn_nm (neg := false) a3.c.1 (a3.abs (by decide))).cast (by simp)
  have hab : Rn (fun k => Fbig_Int_Abs_eql k false t r) (sgn false r, tl r, t, r) := Rn.up (f := fun k => Fbig_Int_Abs_eql k false t r) (Rn.bind (set1_ev false false r (by omega)) (Rn.pure _))
  have ltr := tl_len r
  obtain ⟨s2, l2, b1, b2, b3⟩ := sum2_ev (sgn false r) (sgn false r) (tl r) (tl r) (by omega) (by omega) hr0.c hr0.c
  rw [hr0.z] at b2
  have hadd : Rn (fun k => Fbig_Int_Add_aht k (sgn false r) (tl r)) (s2, l2) := Rn.up (f := fun k => Fbig_Int_Add_aht k (sgn false r) (tl r)) (Rn.bind b1 (Rn.pure _))
  have hcmp := Cmp_ev s2 false l2 d1 b2 nd (by omega) (by omega)
  obtain ⟨c, hc, hcc⟩ := cmpZ_cases (((x.tmod d).natAbs : Int) + (x.tmod d).natAbs) d
  rw [hc] at hcmp
  have hsg := Sign1_ev nx
  have hs3 := Int.sign_trichotomy x
  obtain ⟨m, c1, c2, c3⟩ := NewInt_ev x.sign (by omega)
  obtain ⟨s4, l4, d1', d2, d3⟩ := Add2_ev s (decide (x.sign < 0)) q m a2 c2 (by omega) (by omega)
  have hodd := Odd_ev a2
  by_cases hup : d < 2 * ((x.tmod d).natAbs : Int) ∨ (2 * ((x.tmod d).natAbs : Int) = d ∧ x.tdiv d % 2 ≠ 0)
  · have hv : nearI x d = x.tdiv d + x.sign := if_pos hup
    rw [← hv] at d2
    refine ⟨s4, l4, Rn.up (f := fun k => Frat_Near_ddu k n0 n1 false d1) ?_, d2, by omega⟩
    show Rn (fun k => brat_Near_ddu k n0 n1 false d1) _
    unfold brat_Near_ddu
    refine Rn.bind a1 (Rn.bind hab (Rn.bind hadd (Rn.bind hcmp ?_)))
    by_cases h1 : d < 2 * ((x.tmod d).natAbs : Int)
    · (first | (refine Rn.t ?hc ?_; case hc => simp (config := { implicitDefEqProofs := false, maxSteps := 2000000 }) (disch := omega) only [ps, ↓reduceIte, reduceCtorEq, Int.reduceLT, Int.reduceLE, Int.reduceEq, Nat.reduceLT, Nat.reduceLeDiff, Nat.reduceEqDiff, Int.reduceNeg, eitherK]) | (refine Rn.f ?hc ?_; case hc => simp (config := { implicitDefEqProofs := false, maxSteps := 2000000 }) (disch := omega) only [ps, ↓reduceIte, reduceCtorEq, Int.reduceLT, Int.reduceLE, Int.reduceEq, Nat.reduceLT, Nat.reduceLeDiff, Nat.reduceEqDiff, Int.reduceNeg, eitherK]))
      exact Rn.bind hsg (Rn.bind c1 (Rn.bind d1' (Rn.pure _)))
    · have h2 : 2 * ((x.tmod d).natAbs : Int) = d ∧ x.tdiv d % 2 ≠ 0 := hup.resolve_left h1
      rw [decide_eq_true h2.2] at hodd
      (first | (refine Rn.t ?hc ?_; case hc => simp (config := { implicitDefEqProofs := false, maxSteps := 2000000 }) (disch := omega) only [ps, ↓reduceIte, reduceCtorEq, Int.reduceLT, Int.reduceLE, Int.reduceEq, Nat.reduceLT, Nat.reduceLeDiff, Nat.reduceEqDiff, Int.reduceNeg, eitherK]) | (refine Rn.f ?hc ?_; case hc => simp (config := { implicitDefEqProofs := false, maxSteps := 2000000 }) (disch := omega) only [ps, ↓reduceIte, reduceCtorEq, Int.reduceLT, Int.reduceLE, Int.reduceEq, Nat.reduceLT, Nat.reduceLeDiff, Nat.reduceEqDiff, Int.reduceNeg, eitherK]))
      (first | (refine Rn.t ?hc ?_; case hc => simp (config := { implicitDefEqProofs := false, maxSteps := 2000000 }) (disch := omega) only [ps, ↓reduceIte, reduceCtorEq, Int.reduceLT, Int.reduceLE, Int.reduceEq, Nat.reduceLT, Nat.reduceLeDiff, Nat.reduceEqDiff, Int.reduceNeg, eitherK]) | (refine Rn.f ?hc ?_; case hc => simp (config := { implicitDefEqProofs := false, maxSteps := 2000000 }) (disch := omega) only [ps, ↓reduceIte, reduceCtorEq, Int.reduceLT, Int.reduceLE, Int.reduceEq, Nat.reduceLT, Nat.reduceLeDiff, Nat.reduceEqDiff, Int.reduceNeg, eitherK]))
      refine Rn.bind hodd ?_
      (first | (refine Rn.t ?hc ?_; case hc => simp (config := { implicitDefEqProofs := false, maxSteps := 2000000 }) (disch := omega) only [ps, ↓reduceIte, reduceCtorEq, Int.reduceLT, Int.reduceLE, Int.reduceEq, Nat.reduceLT, Nat.reduceLeDiff, Nat.reduceEqDiff, Int.reduceNeg, eitherK]) | (refine Rn.f ?hc ?_; case hc => simp (config := { implicitDefEqProofs := false, maxSteps := 2000000 }) (disch := omega) only [ps, ↓reduceIte, reduceCtorEq, Int.reduceLT, Int.reduceLE, Int.reduceEq, Nat.reduceLT, Nat.reduceLeDiff, Nat.reduceEqDiff, Int.reduceNeg, eitherK]))
      exact Rn.bind hsg (Rn.bind c1 (Rn.bind d1' (Rn.pure _)))
  · have hv : nearI x d = x.tdiv d := if_neg hup
    rw [← hv] at a2
    refine ⟨s, q, Rn.up (f := fun k => Frat_Near_ddu k n0 n1 false d1) ?_, a2, by omega⟩
    show Rn (fun k => brat_Near_ddu k n0 n1 false d1) _
    unfold brat_Near_ddu
    refine Rn.bind a1 (Rn.bind hab (Rn.bind hadd (Rn.bind hcmp ?_)))
    have h1 : ¬ d < 2 * ((x.tmod d).natAbs : Int) := fun h => hup (.inl h)
    by_cases h2 : 2 * ((x.tmod d).natAbs : Int) = d
    · have h3 : ¬ x.tdiv d % 2 ≠ 0 := fun h => hup (.inr ⟨h2, h⟩)
      rw [decide_eq_false h3] at hodd
      (first | (refine Rn.t ?hc ?_; case hc => simp (config := { implicitDefEqProofs := false, maxSteps := 2000000 }) (disch := omega) only [ps, ↓reduceIte, reduceCtorEq, Int.reduceLT, Int.reduceLE, Int.reduceEq, Nat.reduceLT, Nat.reduceLeDiff, Nat.reduceEqDiff, Int.reduceNeg, eitherK]) | (refine Rn.f ?hc ?_; case hc => simp (config := { implicitDefEqProofs := false, maxSteps := 2000000 }) (disch := omega) only [ps, ↓reduceIte, reduceCtorEq, Int.reduceLT, Int.reduceLE, Int.reduceEq, Nat.reduceLT, Nat.reduceLeDiff, Nat.reduceEqDiff, Int.reduceNeg, eitherK]))
      (first | (refine Rn.t ?hc ?_; case hc => simp (config := { implicitDefEqProofs := false, maxSteps := 2000000 }) (disch := omega) only [ps, ↓reduceIte, reduceCtorEq, Int.reduceLT, Int.reduceLE, Int.reduceEq, Nat.reduceLT, Nat.reduceLeDiff, Nat.reduceEqDiff, Int.reduceNeg, eitherK]) | (refine Rn.f ?hc ?_; case hc => simp (config := { implicitDefEqProofs := false, maxSteps := 2000000 }) (disch := omega) only [ps, ↓reduceIte, reduceCtorEq, Int.reduceLT, Int.reduceLE, Int.reduceEq, Nat.reduceLT, Nat.reduceLeDiff, Nat.reduceEqDiff, Int.reduceNeg, eitherK]))
      refine Rn.bind hodd ?_
      (first | (refine Rn.t ?hc ?_; case hc => simp (config := { implicitDefEqProofs := false, maxSteps := 2000000 }) (disch := omega) only [ps, ↓reduceIte, reduceCtorEq, Int.reduceLT, Int.reduceLE, Int.reduceEq, Nat.reduceLT, Nat.reduceLeDiff, Nat.reduceEqDiff, Int.reduceNeg, eitherK]) | (refine Rn.f ?hc ?_; case hc => simp (config := { implicitDefEqProofs := false, maxSteps := 2000000 }) (disch := omega) only [ps, ↓reduceIte, reduceCtorEq, Int.reduceLT, Int.reduceLE, Int.reduceEq, Nat.reduceLT, Nat.reduceLeDiff, Nat.reduceEqDiff, Int.reduceNeg, eitherK]))
      exact Rn.pure _
    · (first | (refine Rn.t ?hc ?_; case hc => simp (config := { implicitDefEqProofs := false, maxSteps := 2000000 }) (disch := omega) only [ps, ↓reduceIte, reduceCtorEq, Int.reduceLT, Int.reduceLE, Int.reduceEq, Nat.reduceLT, Nat.reduceLeDiff, Nat.reduceEqDiff, Int.reduceNeg, eitherK]) | (refine Rn.f ?hc ?_; case hc => simp (config := { implicitDefEqProofs := false, maxSteps := 2000000 }) (disch := omega) only [ps, ↓reduceIte, reduceCtorEq, Int.reduceLT, Int.reduceLE, Int.reduceEq, Nat.reduceLT, Nat.reduceLeDiff, Nat.reduceEqDiff, Int.reduceNeg, eitherK]))
      (first | (refine Rn.t ?hc ?_; case hc => simp (config := { implicitDefEqProofs := false, maxSteps := 2000000 }) (disch := omega) only [ps, ↓reduceIte, reduceCtorEq, Int.reduceLT, Int.reduceLE, Int.reduceEq, Nat.reduceLT, Nat.reduceLeDiff, Nat.reduceEqDiff, Int.reduceNeg, eitherK]) | (refine Rn.f ?hc ?_; case hc => simp (config := { implicitDefEqProofs := false, maxSteps := 2000000 }) (disch := omega) only [ps, ↓reduceIte, reduceCtorEq, Int.reduceLT, Int.reduceLE, Int.reduceEq, Nat.reduceLT, Nat.reduceLeDiff, Nat.reduceEqDiff, Int.reduceNeg, eitherK]))
      exact Rn.pure _
theorem Round_ev {n0 d0 : Bool} {n1 d1 : List Int} {q : Rat} (h : Fr n0 n1 d0 d1 q) (l1 : n1.length ≤ 72) (l3 : d1.length ≤ 72) : Rn (fun k => Frat_Round k n0 n1 d0 d1) (gridZ (nearI q.num q.den)) := by
  have hd := h.d0
  subst hd
  refine Rn.up (f := fun k => Frat_Round k n0 n1 false d1) ?_
  show Rn (fun k => brat_Round k n0 n1 false d1) _
  unfold brat_Round
  have ck := ratCheck_ev (show n1.length ≤ 9223372036854775807 by omega) (show d1.length ≤ 9223372036854775807 by omega) h.1.c.1 h.2.c.1 (n0 := n0) (d0 := false)
  rw [fr_fault h l1 l3] at ck
  refine Rn.bind ck ?_
  (first | (refine Rn.t ?hc ?_; case hc => simp (config := { implicitDefEqProofs := false, maxSteps := 2000000 }) (disch := omega) only [ps, ↓reduceIte, reduceCtorEq, Int.reduceLT, Int.reduceLE, Int.reduceEq, Nat.reduceLT, Nat.reduceLeDiff, Nat.reduceEqDiff, Int.reduceNeg, eitherK]) | (refine Rn.f ?hc ?_; case hc => simp (config := { implicitDefEqProofs := false, maxSteps := 2000000 }) (disch := omega) only [ps, ↓reduceIte, reduceCtorEq, Int.reduceLT, Int.reduceLE, Int.reduceEq, Nat.reduceLT, Nat.reduceLeDiff, Nat.reduceEqDiff, Int.reduceNeg, eitherK]))
  have t1 := Take_nm h.1 (by omega)
  have t3 := Take_nm h.2 (by omega)
  obtain ⟨s, l, e1, e2, e3⟩ := near_ev h.1 h.2 (by omega) (by omega) (Rat.den_pos' q)
  have g := Grid_ev e2 (by omega)
  exact Rn.bind t1 (Rn.bind t3 (Rn.bind e1 (Rn.bind g (Rn.pure _))))
end Go.Proofs.Ytjgpegpjmkgkkaa.Am

/- Plain reckoning: the least common multiple of denominators. -/
set_option linter.unusedVariables false
set_option linter.unusedSectionVars false
set_option linter.unusedSimpArgs false
set_option maxRecDepth 10000
namespace Go.Proofs.Ytjgpegpjmkgkkaa.Am
open Go

theorem wLimbs_ev (z0 : Bool) (z1 : List Int) : Rn (fun k => Fwide_Limbs_awf k z0 z1) ((z1.length : Int), z0, z1) := by
  have h : Rn (fun k => Fbig_Int_Limbs_awf k z0 z1) ((z1.length : Int), z0, z1) := Rn.up (f := fun k => Fbig_Int_Limbs_awf k z0 z1) (Rn.pure _)
  exact Rn.up (f := fun k => Fwide_Limbs_awf k z0 z1) (Rn.bind h (Rn.pure _))
/-- A denominator, as a number. -/
def RT.d (r : RT) : Nat := (Zv W r.2.1 r.2.2).toNat
theorem RT.pos {r : RT} (hg : r.good) (h : r.f = 0) : 0 < r.d ∧ r.2.2.length ≤ 72 ∧ Nm W r.2.1 r.2.2 (r.d : Int) := by
  obtain ⟨q, h1, h2, h3⟩ := fault_fr hg.1.2 hg.2.2 h
  have e : Zv W r.2.1 r.2.2 = q.den := h1.2.z
  have p := Rat.den_pos' q
  have ed : r.d = q.den := by unfold RT.d; rw [e]; rfl
  rw [ed]
  exact ⟨by omega, h3, h1.2⟩
end Go.Proofs.Ytjgpegpjmkgkkaa.Am

/- Plain reckoning: the reference's least common multiple. -/
set_option linter.unusedVariables false
set_option linter.unusedSectionVars false
set_option linter.unusedSimpArgs false
set_option maxRecDepth 10000
namespace Go.Proofs.Ytjgpegpjmkgkkaa.Am
open Go

theorem Length_ev (a0 : Bool) (a1 : List Int) (hl : a1.length ≤ 1000000000) : Rn (fun k => Fshuntref01_Length k a0 a1) (((a1.length + 1) / 2 : Nat) : Int) := by
  refine Rn.up (f := fun k => Fshuntref01_Length k a0 a1) ?_
  show Rn (fun k => bshuntref01_Length k a0 a1) _
  unfold bshuntref01_Length
  have e : IntKind.wrap .i64 (Int.tdiv (IntKind.wrap .i64 ((a1.length : Int) + 1)) 2) = (((a1.length + 1) / 2 : Nat) : Int) := by
    rw [wrap_i64 (x := (a1.length : Int) + 1) (by omega), tdiv_pos (by omega), wrap_i64 (by omega)]
    omega
  exact Rn.const (by show some (IntKind.wrap .i64 (Int.tdiv (IntKind.wrap .i64 ((a1.length : Int) + 1)) 2)) = _; rw [e])
end Go.Proofs.Ytjgpegpjmkgkkaa.Am

/- Plain reckoning: the reference's fractions. -/
set_option linter.unusedVariables false
set_option linter.unusedSectionVars false
set_option linter.unusedSimpArgs false
set_option maxRecDepth 10000
namespace Go.Proofs.Ytjgpegpjmkgkkaa.Am
open Go

def FrU (n0 : Bool) (n1 : List Int) (d0 : Bool) (d1 : List Int) (q : Rat) : Prop := Nm U n0 n1 q.num ∧ Nm U d0 d1 (q.den : Int)
theorem FrU.cast {n0 : Bool} {n1 : List Int} {d0 : Bool} {d1 : List Int} {q q' : Rat} (h : FrU n0 n1 d0 d1 q) (e : q = q') : FrU n0 n1 d0 d1 q' := e ▸ h
theorem nmU_ne {a0 : Bool} {a1 : List Int} {x : Int} (h : Nm U a0 a1 x) (h0 : x ≠ 0) : a1 ≠ [] := by
  intro e
  rw [e] at h
  have := h.z
  cases a0 <;> simp [V] at this <;> omega
theorem rLowest_ev (n0 d0 : Bool) (n1 d1 : List Int) {x y : Int} (nx : Nm U n0 n1 x) (ny : Nm U d0 d1 y) (hx : n1.length ≤ 100000) (hy : d1.length ≤ 100000) (hy0 : y ≠ 0) :
    ∃ s p t r, Rn (fun k => Fshuntref02_Lowest k n0 n1 d0 d1) (s, p, t, r) ∧ FrU s p t r (Rat.divInt x y) ∧ p.length ≤ n1.length ∧ r.length ≤ d1.length := by
  have ex := num_eq x hy0
  have ey := den_eq x hy0
  have hgp : (Int.gcd x y : Int) ≠ 0 := by
    have := Int.gcd_pos_of_ne_zero_right x hy0
    omega
  have hs := Sign_ev d0 d1 ny
  obtain ⟨c, hc, hcc⟩ := cmpZ_cases y 0
  rw [hc] at hs
  by_cases hneg : y < 0
  · rw [if_pos hneg, Int.tdiv_neg, ← Int.neg_tdiv] at ex ey
    obtain ⟨s1, l1, a1, a2, a3⟩ := Minus_ev n0 n1 nx
    obtain ⟨s2, l2, b1, b2, b3⟩ := Minus_ev d0 d1 ny
    obtain ⟨g, g1, g2, g3⟩ := Common_ev s1 s2 l1 l2 a2 b2 (by omega) (by omega)
    have eg : (Int.gcd (-x) (-y) : Int) = Int.gcd x y := by rw [Int.gcd_neg, Int.neg_gcd]
    rw [eg] at g2
    have hgn := nmU_ne g2 hgp
    obtain ⟨s3, q3, t3, r3, c1, c2, c3, c4, c5⟩ := Divide_ev s1 false l1 g a2 g2 (by omega) (by omega) hgn
    obtain ⟨s4, q4, t4, r4, d1', d2, d3, d4, d5⟩ := Divide_ev s2 false l2 g b2 g2 (by omega) (by omega) hgn
    rw [← ex] at c2
    rw [← ey] at d2
    refine ⟨s3, q3, s4, q4, Rn.up (f := fun k => Fshuntref02_Lowest k n0 n1 d0 d1) ?_, ⟨c2, d2⟩, by omega, by omega⟩
    show Rn (fun k => bshuntref02_Lowest k n0 n1 d0 d1) _
    unfold bshuntref02_Lowest
    refine Rn.bind hs ?_
    (first | (refine Rn.t ?hc ?_; case hc => simp (config := { implicitDefEqProofs := false, maxSteps := 2000000 }) (disch := omega) only [ps, ↓reduceIte, reduceCtorEq, Int.reduceLT, Int.reduceLE, Int.reduceEq, Nat.reduceLT, Nat.reduceLeDiff, Nat.reduceEqDiff, Int.reduceNeg, eitherK]) | (refine Rn.f ?hc ?_; case hc => simp (config := { implicitDefEqProofs := false, maxSteps := 2000000 }) (disch := omega) only [ps, ↓reduceIte, reduceCtorEq, Int.reduceLT, Int.reduceLE, Int.reduceEq, Nat.reduceLT, Nat.reduceLeDiff, Nat.reduceEqDiff, Int.reduceNeg, eitherK]))
    exact Rn.bind a1 (Rn.bind b1 (Rn.bind g1 (Rn.bind c1 (Rn.bind d1' (Rn.pure _)))))
  · rw [if_neg hneg] at ex ey
    obtain ⟨g, g1, g2, g3⟩ := Common_ev n0 d0 n1 d1 nx ny (by omega) (by omega)
    have hgn := nmU_ne g2 hgp
    obtain ⟨s3, q3, t3, r3, c1, c2, c3, c4, c5⟩ := Divide_ev n0 false n1 g nx g2 (by omega) (by omega) hgn
    obtain ⟨s4, q4, t4, r4, d1', d2, d3, d4, d5⟩ := Divide_ev d0 false d1 g ny g2 (by omega) (by omega) hgn
    rw [← ex] at c2
    rw [← ey] at d2
    refine ⟨s3, q3, s4, q4, Rn.up (f := fun k => Fshuntref02_Lowest k n0 n1 d0 d1) ?_, ⟨c2, d2⟩, by omega, by omega⟩
    show Rn (fun k => bshuntref02_Lowest k n0 n1 d0 d1) _
    unfold bshuntref02_Lowest
    refine Rn.bind hs ?_
    (first | (refine Rn.t ?hc ?_; case hc => simp (config := { implicitDefEqProofs := false, maxSteps := 2000000 }) (disch := omega) only [ps, ↓reduceIte, reduceCtorEq, Int.reduceLT, Int.reduceLE, Int.reduceEq, Nat.reduceLT, Nat.reduceLeDiff, Nat.reduceEqDiff, Int.reduceNeg, eitherK]) | (refine Rn.f ?hc ?_; case hc => simp (config := { implicitDefEqProofs := false, maxSteps := 2000000 }) (disch := omega) only [ps, ↓reduceIte, reduceCtorEq, Int.reduceLT, Int.reduceLE, Int.reduceEq, Nat.reduceLT, Nat.reduceLeDiff, Nat.reduceEqDiff, Int.reduceNeg, eitherK]))
    exact Rn.bind g1 (Rn.bind c1 (Rn.bind d1' (Rn.pure _)))
theorem told2_ev {a0 a2 : Bool} {a1 a3 : List Int} {q : Rat} (h : FrU a0 a1 a2 a3 q) (h1 : a1.length ≤ 100000) (h3 : a3.length ≤ 100000) :
    ∃ p r, Fr a0 p a2 r q ∧ Rn (fun k => Fshuntref02_told k a0 a1 a2 a3) (ansR a0 p a2 r) := by
  obtain ⟨p, p1, p2, p3⟩ := rGive_ev a0 a1 (by omega) h.1
  obtain ⟨r, r1, r2, r3⟩ := rGive_ev a2 a3 (by omega) h.2
  refine ⟨p, r, ⟨p2, r2⟩, Rn.up (f := fun k => Fshuntref02_told k a0 a1 a2 a3) ?_⟩
  show Rn (fun k => bshuntref02_told k a0 a1 a2 a3) _
  unfold bshuntref02_told
  have l1 := Length_ev a0 a1 (by omega)
  have l3 := Length_ev a2 a3 (by omega)
  rw [← p3] at l1
  rw [← r3] at l3
  refine Rn.bind l1 ?_
  by_cases c1 : p.length ≤ 72
  · (first | (refine Rn.t ?hc ?_; case hc => simp (config := { implicitDefEqProofs := false, maxSteps := 2000000 }) (disch := omega) only [ps, ↓reduceIte, reduceCtorEq, Int.reduceLT, Int.reduceLE, Int.reduceEq, Nat.reduceLT, Nat.reduceLeDiff, Nat.reduceEqDiff, Int.reduceNeg, eitherK]) | (refine Rn.f ?hc ?_; case hc => simp (config := { implicitDefEqProofs := false, maxSteps := 2000000 }) (disch := omega) only [ps, ↓reduceIte, reduceCtorEq, Int.reduceLT, Int.reduceLE, Int.reduceEq, Nat.reduceLT, Nat.reduceLeDiff, Nat.reduceEqDiff, Int.reduceNeg, eitherK]))
    refine Rn.bind l3 ?_
    by_cases c3 : r.length ≤ 72
    · have e : ansR a0 p a2 r = (a0, p, a2, r, 0) := if_pos ⟨c1, c3⟩
      rw [e]
      (first | (refine Rn.t ?hc ?_; case hc => simp (config := { implicitDefEqProofs := false, maxSteps := 2000000 }) (disch := omega) only [ps, ↓reduceIte, reduceCtorEq, Int.reduceLT, Int.reduceLE, Int.reduceEq, Nat.reduceLT, Nat.reduceLeDiff, Nat.reduceEqDiff, Int.reduceNeg, eitherK]) | (refine Rn.f ?hc ?_; case hc => simp (config := { implicitDefEqProofs := false, maxSteps := 2000000 }) (disch := omega) only [ps, ↓reduceIte, reduceCtorEq, Int.reduceLT, Int.reduceLE, Int.reduceEq, Nat.reduceLT, Nat.reduceLeDiff, Nat.reduceEqDiff, Int.reduceNeg, eitherK]))
      have hg : Rn (fun k => Fshuntref02_Give k a0 a1 a2 a3) (a0, p, a2, r) := Rn.up (f := fun k => Fshuntref02_Give k a0 a1 a2 a3) (Rn.bind p1 (Rn.bind r1 (Rn.pure _)))
      exact Rn.bind hg (Rn.pure _)
    · have e : ansR a0 p a2 r = (false, [], false, [], 13) := if_neg (fun c => c3 c.2)
      rw [e]
      (first | (refine Rn.t ?hc ?_; case hc => simp (config := { implicitDefEqProofs := false, maxSteps := 2000000 }) (disch := omega) only [ps, ↓reduceIte, reduceCtorEq, Int.reduceLT, Int.reduceLE, Int.reduceEq, Nat.reduceLT, Nat.reduceLeDiff, Nat.reduceEqDiff, Int.reduceNeg, eitherK]) | (refine Rn.f ?hc ?_; case hc => simp (config := { implicitDefEqProofs := false, maxSteps := 2000000 }) (disch := omega) only [ps, ↓reduceIte, reduceCtorEq, Int.reduceLT, Int.reduceLE, Int.reduceEq, Nat.reduceLT, Nat.reduceLeDiff, Nat.reduceEqDiff, Int.reduceNeg, eitherK]))
      exact Rn.pure _
  · have e : ansR a0 p a2 r = (false, [], false, [], 13) := if_neg (fun c => c1 c.1)
    rw [e]
    (first | (refine Rn.t ?hc ?_; case hc => simp (config := { implicitDefEqProofs := false, maxSteps := 2000000 }) (disch := omega) only [ps, ↓reduceIte, reduceCtorEq, Int.reduceLT, Int.reduceLE, Int.reduceEq, Nat.reduceLT, Nat.reduceLeDiff, Nat.reduceEqDiff, Int.reduceNeg, eitherK]) | (refine Rn.f ?hc ?_; case hc => simp (config := { implicitDefEqProofs := false, maxSteps := 2000000 }) (disch := omega) only [ps, ↓reduceIte, reduceCtorEq, Int.reduceLT, Int.reduceLE, Int.reduceEq, Nat.reduceLT, Nat.reduceLeDiff, Nat.reduceEqDiff, Int.reduceNeg, eitherK]))
    exact Rn.pure _
theorem take2_ev {n0 d0 : Bool} {n1 d1 : List Int} {q : Rat} (h : Fr n0 n1 d0 d1 q) (h1 : n1.length ≤ 100000) (h3 : d1.length ≤ 100000) :
    ∃ p r, Rn (fun k => Fshuntref02_Take k n0 n1 d0 d1) (n0, p, d0, r) ∧ FrU n0 p d0 r q ∧ p.length ≤ 2 * n1.length ∧ r.length ≤ 2 * d1.length := by
  obtain ⟨p, p1, p2, p3⟩ := rTake_ev n0 n1 (by omega) h.1
  obtain ⟨r, r1, r2, r3⟩ := rTake_ev d0 d1 (by omega) h.2
  exact ⟨p, r, Rn.up (f := fun k => Fshuntref02_Take k n0 n1 d0 d1) (Rn.bind p1 (Rn.bind r1 (Rn.pure _))), ⟨p2, r2⟩, p3, r3⟩
theorem abs_ev (a0 : Bool) (a1 : List Int) : Rn (fun k => Fshuntref01_Abs k a0 a1) (false, a1) := Rn.up (f := fun k => Fshuntref01_Abs k a0 a1) (Rn.pure _)
theorem rNear_ev {a0 a2 : Bool} {a1 a3 : List Int} {x d : Int} (nx : Nm U a0 a1 x) (nd : Nm U a2 a3 d) (h0 : 0 < d) (h1 : a1.length ≤ 1000) (h3 : a3.length ≤ 1000) :
    ∃ s l, Rn (fun k => Fshuntref02_Near k a0 a1 a2 a3) (s, l) ∧ Nm U s l (nearI x d) ∧ l.length ≤ a1.length + 5 := by
  obtain ⟨two, t1, t2, t3⟩ := Small_ev 2 (by decide)
  obtain ⟨one, o1, o2, o3⟩ := Small_ev 1 (by decide)
  obtain ⟨s, q, t, r, q1, q2, q3, q4, q5⟩ := Divide_ev a0 a2 a1 a3 nx nd (by omega) (by omega) (nmU_ne nd (by omega))
  have hr0 : Nm U false r ((x.tmod d).natAbs : Int) := nm_pos q3.c (q3.abs (by decide))
  obtain ⟨s2, w, w1, w2, w3⟩ := Times_ev false _ r two hr0 t2 (by omega) (by omega)
  have hh := Held_ev s2 a2 w a3 w2 nd (by omega) (by omega)
  obtain ⟨c, hc, hcc⟩ := cmpZ_cases (((x.tmod d).natAbs : Int) * 2) d
  rw [hc] at hh
  obtain ⟨s3, q', t4, odd, e1, e2, e3, e4, e5⟩ := Divide_ev s _ q two q2 t2 (by omega) (by omega) (nmU_ne t2 (by decide))
  have hso := Sign_ev t4 odd e3
  obtain ⟨co, hco, hcoo⟩ := cmpZ_cases ((x.tdiv d).tmod 2) 0
  rw [hco] at hso
  have hsx := Sign_ev a0 a1 nx
  obtain ⟨cx, hcx, hcxx⟩ := cmpZ_cases x 0
  rw [hcx] at hsx
  obtain ⟨s5, l5, f1, f2, f3⟩ := Less_ev s _ q one q2 o2 (by omega) (by omega)
  obtain ⟨s6, l6, g1, g2, g3⟩ := Plus_ev s _ q one q2 o2 (by omega) (by omega)
  have hodd : (x.tdiv d).tmod 2 = 0 ↔ x.tdiv d % 2 = 0 := by
    constructor
    · intro h; exact Int.emod_eq_zero_of_dvd (Int.dvd_of_tmod_eq_zero h)
    · intro h; exact Int.tmod_eq_zero_of_dvd (Int.dvd_of_emod_eq_zero h)
  by_cases hup : d < 2 * ((x.tmod d).natAbs : Int) ∨ (2 * ((x.tmod d).natAbs : Int) = d ∧ x.tdiv d % 2 ≠ 0)
  · have hx0 : x ≠ 0 := by
      rintro rfl
      simp at hup
      omega
    have hv : nearI x d = x.tdiv d + x.sign := if_pos hup
    by_cases hxn : x < 0
    · rw [Int.sign_eq_neg_one_of_neg hxn] at hv
      refine ⟨s5, l5, Rn.up (f := fun k => Fshuntref02_Near k a0 a1 a2 a3) ?_, f2.cast (by omega), by omega⟩
      show Rn (fun k => bshuntref02_Near k a0 a1 a2 a3) _
      unfold bshuntref02_Near
      refine Rn.bind t1 (Rn.bind q1 (Rn.bind (abs_ev t r) (Rn.bind w1 (Rn.bind hh (Rn.bind e1 ?_)))))
      by_cases h1 : d < 2 * ((x.tmod d).natAbs : Int)
      · (first | (refine Rn.t ?hc ?_; case hc => simp (config := { implicitDefEqProofs := false, maxSteps := 2000000 }) (disch := omega) only [ps, ↓reduceIte, reduceCtorEq, Int.reduceLT, Int.reduceLE, Int.reduceEq, Nat.reduceLT, Nat.reduceLeDiff, Nat.reduceEqDiff, Int.reduceNeg, eitherK]) | (refine Rn.f ?hc ?_; case hc => simp (config := { implicitDefEqProofs := false, maxSteps := 2000000 }) (disch := omega) only [ps, ↓reduceIte, reduceCtorEq, Int.reduceLT, Int.reduceLE, Int.reduceEq, Nat.reduceLT, Nat.reduceLeDiff, Nat.reduceEqDiff, Int.reduceNeg, eitherK]))
        refine Rn.bind hsx ?_
        (first | (refine Rn.t ?hc ?_; case hc => simp (config := { implicitDefEqProofs := false, maxSteps := 2000000 }) (disch := omega) only [ps, ↓reduceIte, reduceCtorEq, Int.reduceLT, Int.reduceLE, Int.reduceEq, Nat.reduceLT, Nat.reduceLeDiff, Nat.reduceEqDiff, Int.reduceNeg, eitherK]) | (refine Rn.f ?hc ?_; case hc => simp (config := { implicitDefEqProofs := false, maxSteps := 2000000 }) (disch := omega) only [ps, ↓reduceIte, reduceCtorEq, Int.reduceLT, Int.reduceLE, Int.reduceEq, Nat.reduceLT, Nat.reduceLeDiff, Nat.reduceEqDiff, Int.reduceNeg, eitherK]))
        exact Rn.bind o1 (Rn.bind f1 (Rn.pure _))
      · have h2 : 2 * ((x.tmod d).natAbs : Int) = d ∧ x.tdiv d % 2 ≠ 0 := hup.resolve_left h1
        have h3 : (x.tdiv d).tmod 2 ≠ 0 := fun h => h2.2 (hodd.1 h)
        (first | (refine Rn.t ?hc ?_; case hc => simp (config := { implicitDefEqProofs := false, maxSteps := 2000000 }) (disch := omega) only [ps, ↓reduceIte, reduceCtorEq, Int.reduceLT, Int.reduceLE, Int.reduceEq, Nat.reduceLT, Nat.reduceLeDiff, Nat.reduceEqDiff, Int.reduceNeg, eitherK]) | (refine Rn.f ?hc ?_; case hc => simp (config := { implicitDefEqProofs := false, maxSteps := 2000000 }) (disch := omega) only [ps, ↓reduceIte, reduceCtorEq, Int.reduceLT, Int.reduceLE, Int.reduceEq, Nat.reduceLT, Nat.reduceLeDiff, Nat.reduceEqDiff, Int.reduceNeg, eitherK]))
        (first | (refine Rn.t ?hc ?_; case hc => simp (config := { implicitDefEqProofs := false, maxSteps := 2000000 }) (disch := omega) only [ps, ↓reduceIte, reduceCtorEq, Int.reduceLT, Int.reduceLE, Int.reduceEq, Nat.reduceLT, Nat.reduceLeDiff, Nat.reduceEqDiff, Int.reduceNeg, eitherK]) | (refine Rn.f ?hc ?_; case hc => simp (config := { implicitDefEqProofs := false, maxSteps := 2000000 }) (disch := omega) only [ps, ↓reduceIte, reduceCtorEq, Int.reduceLT, Int.reduceLE, Int.reduceEq, Nat.reduceLT, Nat.reduceLeDiff, Nat.reduceEqDiff, Int.reduceNeg, eitherK]))
        refine Rn.bind hso ?_
        (first | (refine Rn.t ?hc ?_; case hc => simp (config := { implicitDefEqProofs := false, maxSteps := 2000000 }) (disch := omega) only [ps, ↓reduceIte, reduceCtorEq, Int.reduceLT, Int.reduceLE, Int.reduceEq, Nat.reduceLT, Nat.reduceLeDiff, Nat.reduceEqDiff, Int.reduceNeg, eitherK]) | (refine Rn.f ?hc ?_; case hc => simp (config := { implicitDefEqProofs := false, maxSteps := 2000000 }) (disch := omega) only [ps, ↓reduceIte, reduceCtorEq, Int.reduceLT, Int.reduceLE, Int.reduceEq, Nat.reduceLT, Nat.reduceLeDiff, Nat.reduceEqDiff, Int.reduceNeg, eitherK]))
        refine Rn.bind hsx ?_
        (first | (refine Rn.t ?hc ?_; case hc => simp (config := { implicitDefEqProofs := false, maxSteps := 2000000 }) (disch := omega) only [ps, ↓reduceIte, reduceCtorEq, Int.reduceLT, Int.reduceLE, Int.reduceEq, Nat.reduceLT, Nat.reduceLeDiff, Nat.reduceEqDiff, Int.reduceNeg, eitherK]) | (refine Rn.f ?hc ?_; case hc => simp (config := { implicitDefEqProofs := false, maxSteps := 2000000 }) (disch := omega) only [ps, ↓reduceIte, reduceCtorEq, Int.reduceLT, Int.reduceLE, Int.reduceEq, Nat.reduceLT, Nat.reduceLeDiff, Nat.reduceEqDiff, Int.reduceNeg, eitherK]))
        exact Rn.bind o1 (Rn.bind f1 (Rn.pure _))
    · rw [Int.sign_eq_one_of_pos (by omega)] at hv
      refine ⟨s6, l6, Rn.up (f := fun k => Fshuntref02_Near k a0 a1 a2 a3) ?_, g2.cast (by omega), by omega⟩
      show Rn (fun k => bshuntref02_Near k a0 a1 a2 a3) _
      unfold bshuntref02_Near
      refine Rn.bind t1 (Rn.bind q1 (Rn.bind (abs_ev t r) (Rn.bind w1 (Rn.bind hh (Rn.bind e1 ?_)))))
      by_cases h1 : d < 2 * ((x.tmod d).natAbs : Int)
      · (first | (refine Rn.t ?hc ?_; case hc => simp (config := { implicitDefEqProofs := false, maxSteps := 2000000 }) (disch := omega) only [ps, ↓reduceIte, reduceCtorEq, Int.reduceLT, Int.reduceLE, Int.reduceEq, Nat.reduceLT, Nat.reduceLeDiff, Nat.reduceEqDiff, Int.reduceNeg, eitherK]) | (refine Rn.f ?hc ?_; case hc => simp (config := { implicitDefEqProofs := false, maxSteps := 2000000 }) (disch := omega) only [ps, ↓reduceIte, reduceCtorEq, Int.reduceLT, Int.reduceLE, Int.reduceEq, Nat.reduceLT, Nat.reduceLeDiff, Nat.reduceEqDiff, Int.reduceNeg, eitherK]))
        refine Rn.bind hsx ?_
        (first | (refine Rn.t ?hc ?_; case hc => simp (config := { implicitDefEqProofs := false, maxSteps := 2000000 }) (disch := omega) only [ps, ↓reduceIte, reduceCtorEq, Int.reduceLT, Int.reduceLE, Int.reduceEq, Nat.reduceLT, Nat.reduceLeDiff, Nat.reduceEqDiff, Int.reduceNeg, eitherK]) | (refine Rn.f ?hc ?_; case hc => simp (config := { implicitDefEqProofs := false, maxSteps := 2000000 }) (disch := omega) only [ps, ↓reduceIte, reduceCtorEq, Int.reduceLT, Int.reduceLE, Int.reduceEq, Nat.reduceLT, Nat.reduceLeDiff, Nat.reduceEqDiff, Int.reduceNeg, eitherK]))
        exact Rn.bind o1 (Rn.bind g1 (Rn.pure _))
      · have h2 : 2 * ((x.tmod d).natAbs : Int) = d ∧ x.tdiv d % 2 ≠ 0 := hup.resolve_left h1
        have h3 : (x.tdiv d).tmod 2 ≠ 0 := fun h => h2.2 (hodd.1 h)
        (first | (refine Rn.t ?hc ?_; case hc => simp (config := { implicitDefEqProofs := false, maxSteps := 2000000 }) (disch := omega) only [ps, ↓reduceIte, reduceCtorEq, Int.reduceLT, Int.reduceLE, Int.reduceEq, Nat.reduceLT, Nat.reduceLeDiff, Nat.reduceEqDiff, Int.reduceNeg, eitherK]) | (refine Rn.f ?hc ?_; case hc => simp (config := { implicitDefEqProofs := false, maxSteps := 2000000 }) (disch := omega) only [ps, ↓reduceIte, reduceCtorEq, Int.reduceLT, Int.reduceLE, Int.reduceEq, Nat.reduceLT, Nat.reduceLeDiff, Nat.reduceEqDiff, Int.reduceNeg, eitherK]))
        (first | (refine Rn.t ?hc ?_; case hc => simp (config := { implicitDefEqProofs := false, maxSteps := 2000000 }) (disch := omega) only [ps, ↓reduceIte, reduceCtorEq, Int.reduceLT, Int.reduceLE, Int.reduceEq, Nat.reduceLT, Nat.reduceLeDiff, Nat.reduceEqDiff, Int.reduceNeg, eitherK]) | (refine Rn.f ?hc ?_; case hc => simp (config := { implicitDefEqProofs := false, maxSteps := 2000000 }) (disch := omega) only [ps, ↓reduceIte, reduceCtorEq, Int.reduceLT, Int.reduceLE, Int.reduceEq, Nat.reduceLT, Nat.reduceLeDiff, Nat.reduceEqDiff, Int.reduceNeg, eitherK]))
        refine Rn.bind hso ?_
        (first | (refine Rn.t ?hc ?_; case hc => simp (config := { implicitDefEqProofs := false, maxSteps := 2000000 }) (disch := omega) only [ps, ↓reduceIte, reduceCtorEq, Int.reduceLT, Int.reduceLE, Int.reduceEq, Nat.reduceLT, Nat.reduceLeDiff, Nat.reduceEqDiff, Int.reduceNeg, eitherK]) | (refine Rn.f ?hc ?_; case hc => simp (config := { implicitDefEqProofs := false, maxSteps := 2000000 }) (disch := omega) only [ps, ↓reduceIte, reduceCtorEq, Int.reduceLT, Int.reduceLE, Int.reduceEq, Nat.reduceLT, Nat.reduceLeDiff, Nat.reduceEqDiff, Int.reduceNeg, eitherK]))
        refine Rn.bind hsx ?_
        (first | (refine Rn.t ?hc ?_; case hc => simp (config := { implicitDefEqProofs := false, maxSteps := 2000000 }) (disch := omega) only [ps, ↓reduceIte, reduceCtorEq, Int.reduceLT, Int.reduceLE, Int.reduceEq, Nat.reduceLT, Nat.reduceLeDiff, Nat.reduceEqDiff, Int.reduceNeg, eitherK]) | (refine Rn.f ?hc ?_; case hc => simp (config := { implicitDefEqProofs := false, maxSteps := 2000000 }) (disch := omega) only [ps, ↓reduceIte, reduceCtorEq, Int.reduceLT, Int.reduceLE, Int.reduceEq, Nat.reduceLT, Nat.reduceLeDiff, Nat.reduceEqDiff, Int.reduceNeg, eitherK]))
        exact Rn.bind o1 (Rn.bind g1 (Rn.pure _))
  · have hv : nearI x d = x.tdiv d := if_neg hup
    refine ⟨s, q, Rn.up (f := fun k => Fshuntref02_Near k a0 a1 a2 a3) ?_, q2.cast hv.symm, by omega⟩
    show Rn (fun k => bshuntref02_Near k a0 a1 a2 a3) _
    unfold bshuntref02_Near
    refine Rn.bind t1 (Rn.bind q1 (Rn.bind (abs_ev t r) (Rn.bind w1 (Rn.bind hh (Rn.bind e1 ?_)))))
    have h1 : ¬ d < 2 * ((x.tmod d).natAbs : Int) := fun h => hup (.inl h)
    by_cases h2 : 2 * ((x.tmod d).natAbs : Int) = d
    · have h3 : (x.tdiv d).tmod 2 = 0 := hodd.2 (by
        rcases Int.emod_two_eq (x.tdiv d) with h | h
        · exact h
        · exact absurd (.inr ⟨h2, by omega⟩) hup)
      (first | (refine Rn.t ?hc ?_; case hc => simp (config := { implicitDefEqProofs := false, maxSteps := 2000000 }) (disch := omega) only [ps, ↓reduceIte, reduceCtorEq, Int.reduceLT, Int.reduceLE, Int.reduceEq, Nat.reduceLT, Nat.reduceLeDiff, Nat.reduceEqDiff, Int.reduceNeg, eitherK]) | (refine Rn.f ?hc ?_; case hc => simp (config := { implicitDefEqProofs := false, maxSteps := 2000000 }) (disch := omega) only [ps, ↓reduceIte, reduceCtorEq, Int.reduceLT, Int.reduceLE, Int.reduceEq, Nat.reduceLT, Nat.reduceLeDiff, Nat.reduceEqDiff, Int.reduceNeg, eitherK]))
      (first | (refine Rn.t ?hc ?_; case hc => simp (config := { implicitDefEqProofs := false, maxSteps := 2000000 }) (disch := omega) only [ps, ↓reduceIte, reduceCtorEq, Int.reduceLT, Int.reduceLE, Int.reduceEq, Nat.reduceLT, Nat.reduceLeDiff, Nat.reduceEqDiff, Int.reduceNeg, eitherK]) | (refine Rn.f ?hc ?_; case hc => simp (config := { implicitDefEqProofs := false, maxSteps := 2000000 }) (disch := omega) only [ps, ↓reduceIte, reduceCtorEq, Int.reduceLT, Int.reduceLE, Int.reduceEq, Nat.reduceLT, Nat.reduceLeDiff, Nat.reduceEqDiff, Int.reduceNeg, eitherK]))
      refine Rn.bind hso ?_
      (first | (refine Rn.t ?hc ?_; case hc => simp (config := { implicitDefEqProofs := false, maxSteps := 2000000 }) (disch := omega) only [ps, ↓reduceIte, reduceCtorEq, Int.reduceLT, Int.reduceLE, Int.reduceEq, Nat.reduceLT, Nat.reduceLeDiff, Nat.reduceEqDiff, Int.reduceNeg, eitherK]) | (refine Rn.f ?hc ?_; case hc => simp (config := { implicitDefEqProofs := false, maxSteps := 2000000 }) (disch := omega) only [ps, ↓reduceIte, reduceCtorEq, Int.reduceLT, Int.reduceLE, Int.reduceEq, Nat.reduceLT, Nat.reduceLeDiff, Nat.reduceEqDiff, Int.reduceNeg, eitherK]))
      exact Rn.pure _
    · (first | (refine Rn.t ?hc ?_; case hc => simp (config := { implicitDefEqProofs := false, maxSteps := 2000000 }) (disch := omega) only [ps, ↓reduceIte, reduceCtorEq, Int.reduceLT, Int.reduceLE, Int.reduceEq, Nat.reduceLT, Nat.reduceLeDiff, Nat.reduceEqDiff, Int.reduceNeg, eitherK]) | (refine Rn.f ?hc ?_; case hc => simp (config := { implicitDefEqProofs := false, maxSteps := 2000000 }) (disch := omega) only [ps, ↓reduceIte, reduceCtorEq, Int.reduceLT, Int.reduceLE, Int.reduceEq, Nat.reduceLT, Nat.reduceLeDiff, Nat.reduceEqDiff, Int.reduceNeg, eitherK]))
      (first | (refine Rn.t ?hc ?_; case hc => simp (config := { implicitDefEqProofs := false, maxSteps := 2000000 }) (disch := omega) only [ps, ↓reduceIte, reduceCtorEq, Int.reduceLT, Int.reduceLE, Int.reduceEq, Nat.reduceLT, Nat.reduceLeDiff, Nat.reduceEqDiff, Int.reduceNeg, eitherK]) | (refine Rn.f ?hc ?_; case hc => simp (config := { implicitDefEqProofs := false, maxSteps := 2000000 }) (disch := omega) only [ps, ↓reduceIte, reduceCtorEq, Int.reduceLT, Int.reduceLE, Int.reduceEq, Nat.reduceLT, Nat.reduceLeDiff, Nat.reduceEqDiff, Int.reduceNeg, eitherK]))
      exact Rn.pure _
theorem rGrid_ev {a0 a2 : Bool} {a1 a3 : List Int} {x d : Int} (nx : Nm U a0 a1 x) (nd : Nm U a2 a3 d) (h0 : 0 < d) (h1 : a1.length ≤ 900) (h3 : a3.length ≤ 900) : Rn (fun k => Fshuntref02_Grid k a0 a1 a2 a3) (gridZ (nearI x d)) := by
  obtain ⟨s, l, e1, e2, e3⟩ := rNear_ev nx nd h0 (by omega) (by omega)
  have hw := rWhole_ev s l (by omega) e2
  refine Rn.up (f := fun k => Fshuntref02_Grid k a0 a1 a2 a3) ?_
  show Rn (fun k => bshuntref02_Grid k a0 a1 a2 a3) _
  unfold bshuntref02_Grid
  refine Rn.bind e1 (Rn.bind hw ?_)
  generalize nearI x d = v
  by_cases hok : -9223372036854775808 ≤ v ∧ v ≤ 9223372036854775807
  · rw [if_pos hok]
    (first | (refine Rn.t ?hc ?_; case hc => simp (config := { implicitDefEqProofs := false, maxSteps := 2000000 }) (disch := omega) only [ps, ↓reduceIte, reduceCtorEq, Int.reduceLT, Int.reduceLE, Int.reduceEq, Nat.reduceLT, Nat.reduceLeDiff, Nat.reduceEqDiff, Int.reduceNeg, eitherK]) | (refine Rn.f ?hc ?_; case hc => simp (config := { implicitDefEqProofs := false, maxSteps := 2000000 }) (disch := omega) only [ps, ↓reduceIte, reduceCtorEq, Int.reduceLT, Int.reduceLE, Int.reduceEq, Nat.reduceLT, Nat.reduceLeDiff, Nat.reduceEqDiff, Int.reduceNeg, eitherK]))
    by_cases h4 : v ≤ 1000000000000000000
    · by_cases h5 : -1000000000000000000 ≤ v
      · have e : gridZ v = (v, 0) := if_pos ⟨h5, h4⟩
        rw [e]
        (first | (refine Rn.t ?hc ?_; case hc => simp (config := { implicitDefEqProofs := false, maxSteps := 2000000 }) (disch := omega) only [ps, ↓reduceIte, reduceCtorEq, Int.reduceLT, Int.reduceLE, Int.reduceEq, Nat.reduceLT, Nat.reduceLeDiff, Nat.reduceEqDiff, Int.reduceNeg, eitherK]) | (refine Rn.f ?hc ?_; case hc => simp (config := { implicitDefEqProofs := false, maxSteps := 2000000 }) (disch := omega) only [ps, ↓reduceIte, reduceCtorEq, Int.reduceLT, Int.reduceLE, Int.reduceEq, Nat.reduceLT, Nat.reduceLeDiff, Nat.reduceEqDiff, Int.reduceNeg, eitherK]))
        (first | (refine Rn.t ?hc ?_; case hc => simp (config := { implicitDefEqProofs := false, maxSteps := 2000000 }) (disch := omega) only [ps, ↓reduceIte, reduceCtorEq, Int.reduceLT, Int.reduceLE, Int.reduceEq, Nat.reduceLT, Nat.reduceLeDiff, Nat.reduceEqDiff, Int.reduceNeg, eitherK]) | (refine Rn.f ?hc ?_; case hc => simp (config := { implicitDefEqProofs := false, maxSteps := 2000000 }) (disch := omega) only [ps, ↓reduceIte, reduceCtorEq, Int.reduceLT, Int.reduceLE, Int.reduceEq, Nat.reduceLT, Nat.reduceLeDiff, Nat.reduceEqDiff, Int.reduceNeg, eitherK]))
        exact Rn.pure _
      · have e : gridZ v = (0, 4) := if_neg (fun c => h5 c.1)
        rw [e]
        (first | (refine Rn.t ?hc ?_; case hc => simp (config := { implicitDefEqProofs := false, maxSteps := 2000000 }) (disch := omega) only [ps, ↓reduceIte, reduceCtorEq, Int.reduceLT, Int.reduceLE, Int.reduceEq, Nat.reduceLT, Nat.reduceLeDiff, Nat.reduceEqDiff, Int.reduceNeg, eitherK]) | (refine Rn.f ?hc ?_; case hc => simp (config := { implicitDefEqProofs := false, maxSteps := 2000000 }) (disch := omega) only [ps, ↓reduceIte, reduceCtorEq, Int.reduceLT, Int.reduceLE, Int.reduceEq, Nat.reduceLT, Nat.reduceLeDiff, Nat.reduceEqDiff, Int.reduceNeg, eitherK]))
        (first | (refine Rn.t ?hc ?_; case hc => simp (config := { implicitDefEqProofs := false, maxSteps := 2000000 }) (disch := omega) only [ps, ↓reduceIte, reduceCtorEq, Int.reduceLT, Int.reduceLE, Int.reduceEq, Nat.reduceLT, Nat.reduceLeDiff, Nat.reduceEqDiff, Int.reduceNeg, eitherK]) | (refine Rn.f ?hc ?_; case hc => simp (config := { implicitDefEqProofs := false, maxSteps := 2000000 }) (disch := omega) only [ps, ↓reduceIte, reduceCtorEq, Int.reduceLT, Int.reduceLE, Int.reduceEq, Nat.reduceLT, Nat.reduceLeDiff, Nat.reduceEqDiff, Int.reduceNeg, eitherK]))
        exact Rn.pure _
    · have e : gridZ v = (0, 4) := if_neg (fun c => h4 c.2)
      rw [e]
      (first | (refine Rn.t ?hc ?_; case hc => simp (config := { implicitDefEqProofs := false, maxSteps := 2000000 }) (disch := omega) only [ps, ↓reduceIte, reduceCtorEq, Int.reduceLT, Int.reduceLE, Int.reduceEq, Nat.reduceLT, Nat.reduceLeDiff, Nat.reduceEqDiff, Int.reduceNeg, eitherK]) | (refine Rn.f ?hc ?_; case hc => simp (config := { implicitDefEqProofs := false, maxSteps := 2000000 }) (disch := omega) only [ps, ↓reduceIte, reduceCtorEq, Int.reduceLT, Int.reduceLE, Int.reduceEq, Nat.reduceLT, Nat.reduceLeDiff, Nat.reduceEqDiff, Int.reduceNeg, eitherK]))
      exact Rn.pure _
  · have e : gridZ v = (0, 4) := if_neg (by omega)
    rw [if_neg hok, e]
    (first | (refine Rn.t ?hc ?_; case hc => simp (config := { implicitDefEqProofs := false, maxSteps := 2000000 }) (disch := omega) only [ps, ↓reduceIte, reduceCtorEq, Int.reduceLT, Int.reduceLE, Int.reduceEq, Nat.reduceLT, Nat.reduceLeDiff, Nat.reduceEqDiff, Int.reduceNeg, eitherK]) | (refine Rn.f ?hc ?_; case hc => simp (config := { implicitDefEqProofs := false, maxSteps := 2000000 }) (disch := omega) only [ps, ↓reduceIte, reduceCtorEq, Int.reduceLT, Int.reduceLE, Int.reduceEq, Nat.reduceLT, Nat.reduceLeDiff, Nat.reduceEqDiff, Int.reduceNeg, eitherK]))
    exact Rn.pure _
section
variable {n0 d0 : Bool} {n1 d1 : List Int} (la : n1.length ≤ 9223372036854775807) (lb : d1.length ≤ 9223372036854775807) (da : Dg W n1) (db : Dg W d1)
include la lb da db
/-- Both round alike. -/
theorem round_both : ∃ v, Rn (fun k => Frat_Round k n0 n1 d0 d1) v ∧ Rn (fun k => Fshuntref02_Round k n0 n1 d0 d1) v := by
  have c1 := ratCheck_ev la lb da db (n0 := n0) (d0 := d0)
  have c2 := refFault_ev la lb da db (n0 := n0) (d0 := d0)
  by_cases h0 : faultR n0 n1 d0 d1 = 0
  · obtain ⟨q, hq, k1, k3⟩ := fault_fr da db h0
    rw [h0] at c2
    obtain ⟨p, r, t1, t2, t3, t4⟩ := take2_ev hq (by omega) (by omega)
    have hg := rGrid_ev t2.1 t2.2 (Rat.den_pos' q) (by omega) (by omega)
    refine ⟨_, Round_ev hq k1 k3, Rn.up (f := fun k => Fshuntref02_Round k n0 n1 d0 d1) ?_⟩
    show Rn (fun k => bshuntref02_Round k n0 n1 d0 d1) _
    unfold bshuntref02_Round
    refine Rn.bind c2 ?_
    (first | (refine Rn.t ?hc ?_; case hc => simp (config := { implicitDefEqProofs := false, maxSteps := 2000000 }) (disch := omega) only [ps, ↓reduceIte, reduceCtorEq, Int.reduceLT, Int.reduceLE, Int.reduceEq, Nat.reduceLT, Nat.reduceLeDiff, Nat.reduceEqDiff, Int.reduceNeg, eitherK]) | (refine Rn.f ?hc ?_; case hc => simp (config := { implicitDefEqProofs := false, maxSteps := 2000000 }) (disch := omega) only [ps, ↓reduceIte, reduceCtorEq, Int.reduceLT, Int.reduceLE, Int.reduceEq, Nat.reduceLT, Nat.reduceLeDiff, Nat.reduceEqDiff, Int.reduceNeg, eitherK]))
    exact Rn.bind t1 (Rn.bind hg (Rn.pure _))
  · refine ⟨(0, faultR n0 n1 d0 d1), Rn.up (f := fun k => Frat_Round k n0 n1 d0 d1) ?_, Rn.up (f := fun k => Fshuntref02_Round k n0 n1 d0 d1) ?_⟩
    · exact Rn.bind c1 (Rn.t (by simpa using h0) (Rn.pure _))
    · exact Rn.bind c2 (Rn.t (by simpa using h0) (Rn.pure _))
/-- Both make the same fraction. -/
theorem make_both (l1 : n1.length ≤ 1000) (l3 : d1.length ≤ 1000) : ∃ s p t r e, Rn (fun k => Frat_Make k n0 n1 d0 d1) (s, p, t, r, e) ∧ Rn (fun k => Fshuntref02_Make k n0 n1 d0 d1) (s, p, t, r, e) ∧ p.length ≤ 1000 ∧ r.length ≤ 1000 := by
  have c1 := check_ev n0 n1 la da
  have c2 := check_ev d0 d1 lb db
  have r1 := right_ev n0 n1 la da
  have r2 := right_ev d0 d1 lb db
  by_cases hn : Ri n0 n1
  case neg =>
    rw [if_neg hn] at c1
    rw [decide_eq_false hn] at r1
    refine ⟨false, [], false, [], 10, Rn.up (f := fun k => Frat_Make k n0 n1 d0 d1) ?_, Rn.up (f := fun k => Fshuntref02_Make k n0 n1 d0 d1) ?_, by simp, by simp⟩
    · exact Rn.bind c1 (Rn.f (by simp) (Rn.pure _))
    · exact Rn.bind r1 (Rn.f (by simp) (Rn.pure _))
  rw [if_pos hn] at c1
  rw [decide_eq_true hn] at r1
  by_cases hd : Ri d0 d1
  case neg =>
    rw [if_neg hd] at c2
    rw [decide_eq_false hd] at r2
    refine ⟨false, [], false, [], 10, Rn.up (f := fun k => Frat_Make k n0 n1 d0 d1) ?_, Rn.up (f := fun k => Fshuntref02_Make k n0 n1 d0 d1) ?_, by simp, by simp⟩
    · exact Rn.bind c1 (Rn.t (by simp) (Rn.bind c2 (Rn.t (by simp) (Rn.pure _))))
    · exact Rn.bind r1 (Rn.t (by simp) (Rn.bind r2 (Rn.t (by simp) (Rn.pure _))))
  rw [if_pos hd] at c2
  rw [decide_eq_true hd] at r2
  have k1 := hn.1
  have k3 := hd.1
  by_cases h0 : d1 = []
  · refine ⟨false, [], false, [], 11, Rn.up (f := fun k => Frat_Make k n0 n1 d0 d1) ?_, Rn.up (f := fun k => Fshuntref02_Make k n0 n1 d0 d1) ?_, by simp, by simp⟩
    · exact Rn.bind c1 (Rn.t (by simp) (Rn.bind c2 (Rn.f (by simp) (Rn.t (by simp [h0]) (Rn.pure _)))))
    · exact Rn.bind r1 (Rn.t (by simp) (Rn.bind r2 (Rn.f (by simp) (Rn.t (by simp [h0]) (Rn.pure _)))))
  · have nx := hn.nm da
    have ny := hd.nm db
    have hy0 : Zv W d0 d1 ≠ 0 := by
      intro e
      have := ny.abs (by decide)
      rw [e] at this
      exact h0 ((ny.c.nil_iff (B := W) (by decide)).2 (by rw [this]; rfl))
    obtain ⟨s, p, t, r, e1, e2, e3, e4⟩ := ratMake_ev nx ny k1 k3 hy0
    obtain ⟨a1, t1, t2, t3⟩ := rTake_ev n0 n1 (by omega) nx
    obtain ⟨a2, u1, u2, u3⟩ := rTake_ev d0 d1 (by omega) ny
    obtain ⟨s', p', t', r', f1, f2, f3, f4⟩ := rLowest_ev n0 d0 a1 a2 t2 u2 (by omega) (by omega) hy0
    obtain ⟨w1, w2, g1, g2⟩ := told2_ev f2 (by omega) (by omega)
    obtain ⟨rfl, rfl, rfl, rfl⟩ := g1.ext e2
    rw [ansR_le (by omega) (by omega)] at g2
    refine ⟨s', w1, t', w2, 0, e1, Rn.up (f := fun k => Fshuntref02_Make k n0 n1 d0 d1) ?_, by omega, by omega⟩
    exact Rn.bind r1 (Rn.t (by simp) (Rn.bind r2 (Rn.f (by simp) (Rn.f (by simpa using h0) (Rn.bind t1 (Rn.bind u1 (Rn.bind f1 (Rn.bind g2 (Rn.pure _)))))))))
end
end Go.Proofs.Ytjgpegpjmkgkkaa.Am

/- Plain reckoning: a fraction times a whole number, where that is whole. -/
set_option linter.unusedVariables false
set_option linter.unusedSectionVars false
set_option linter.unusedSimpArgs false
set_option maxRecDepth 10000
namespace Go.Proofs.Ytjgpegpjmkgkkaa.Am
open Go

theorem whole_law (x : Int) {d : Int} (h : 0 < d) : (((Rat.divInt x d).den : Int) = 1 ↔ x.tmod d = 0) ∧ (x.tmod d = 0 → (Rat.divInt x d).num = x.tdiv d) := by
  have ey := den_eq x (show d ≠ 0 by omega)
  have ex := num_eq x (show d ≠ 0 by omega)
  rw [if_neg (by omega)] at ex ey
  have g0 : (0 : Int) < Int.gcd x d := by
    have := Int.gcd_pos_of_ne_zero_right x (show d ≠ 0 by omega)
    omega
  have hg : x.tmod d = 0 → (Int.gcd x d : Int) = d := by
    intro h0
    have h1 := Int.dvd_of_tmod_eq_zero h0
    exact (Int.gcd_eq_right_iff_dvd (by omega)).2 h1
  refine ⟨⟨fun h1 => ?_, fun h0 => ?_⟩, fun h0 => ?_⟩
  · rw [ey] at h1
    have h2 := Int.tdiv_mul_cancel (Int.gcd_dvd_right x d)
    rw [h1, Int.one_mul] at h2
    have h3 := Int.gcd_dvd_left x d
    rw [h2] at h3
    exact Int.tmod_eq_zero_of_dvd h3
  · rw [ey, hg h0, Int.tdiv_self (by omega)]
  · rw [ex, hg h0]
section
variable {n0 d0 b0 : Bool} {n1 d1 b1 : List Int} (la : n1.length ≤ 9223372036854775807) (lb : d1.length ≤ 9223372036854775807) (lc : b1.length ≤ 9223372036854775807) (da : Dg W n1) (db : Dg W d1) (dc : Dg W b1)
include la lb lc da db dc
theorem whole_both : ∃ s p e, Rn (fun k => Frat_Whole k n0 n1 d0 d1 b0 b1) (s, p, e) ∧ Rn (fun k => Fshuntref02_Whole k n0 n1 d0 d1 b0 b1) (s, p, e) ∧ p.length ≤ 72 := by
  have c1 := ratCheck_ev la lb da db (n0 := n0) (d0 := d0)
  have c2 := refFault_ev la lb da db (n0 := n0) (d0 := d0)
  have k1 := check_ev b0 b1 lc dc
  have k2 := right_ev b0 b1 lc dc
  have h3 := faultR_cases n0 n1 d0 d1
  by_cases h10 : faultR n0 n1 d0 d1 = 10
  · rw [h10] at c1 c2
    refine ⟨false, [], 10, Rn.up (f := fun k => Frat_Whole k n0 n1 d0 d1 b0 b1) ?_, Rn.up (f := fun k => Fshuntref02_Whole k n0 n1 d0 d1 b0 b1) ?_, by simp⟩
    · exact Rn.bind c1 (Rn.f (by simp) (Rn.pure _))
    · exact Rn.bind c2 (Rn.f (by simp) (Rn.pure _))
  by_cases hb : Ri b0 b1
  case neg =>
    rw [if_neg hb] at k1
    rw [decide_eq_false hb] at k2
    refine ⟨false, [], 10, Rn.up (f := fun k => Frat_Whole k n0 n1 d0 d1 b0 b1) ?_, Rn.up (f := fun k => Fshuntref02_Whole k n0 n1 d0 d1 b0 b1) ?_, by simp⟩
    · exact Rn.bind c1 (Rn.t (by simpa using h10) (Rn.bind k1 (Rn.t (by simp) (Rn.pure _))))
    · exact Rn.bind c2 (Rn.t (by simpa using h10) (Rn.bind k2 (Rn.t (by simp) (Rn.pure _))))
  rw [if_pos hb] at k1
  rw [decide_eq_true hb] at k2
  by_cases h20 : faultR n0 n1 d0 d1 = 20
  · rw [h20] at c1 c2
    refine ⟨false, [], 20, Rn.up (f := fun k => Frat_Whole k n0 n1 d0 d1 b0 b1) ?_, Rn.up (f := fun k => Fshuntref02_Whole k n0 n1 d0 d1 b0 b1) ?_, by simp⟩
    · exact Rn.bind c1 (Rn.t (by simp) (Rn.bind k1 (Rn.f (by simp) (Rn.t (by simp) (Rn.pure _)))))
    · exact Rn.bind c2 (Rn.t (by simp) (Rn.bind k2 (Rn.f (by simp) (Rn.t (by simp) (Rn.pure _)))))
  have h0 : faultR n0 n1 d0 d1 = 0 := by omega
  obtain ⟨q, hq, l1, l3⟩ := fault_fr da db h0
  rw [h0] at c1 c2
  have l2 := hb.1
  have nb := hb.nm dc
  obtain ⟨y, hy⟩ : ∃ y, Zv W b0 b1 = y := ⟨_, rfl⟩
  rw [hy] at nb
  have hd := Rat.den_pos' q
  obtain ⟨w1, w2⟩ := whole_law (y * q.num) hd
  -- the program
  have t1 := Take_nm nb (by omega)
  have t2 := Take_nm hq.1 (by omega)
  have t3 := Take_nm hq.2 (by omega)
  obtain ⟨s, m, m1, m2, m3⟩ := Mulj_ev b0 n0 b1 n1 nb hq.1 (by omega) (by omega)
  obtain ⟨sq, lq, sr, lr, e1, e2, e3, e4, e5⟩ := QuoRem_ev false s d0 false m d1 m2 hq.2 (by omega) (by omega) hq.ne
  have hsg := Sign1_ev e3
  have hlm := wLimbs_ev sq lq
  -- the reference
  obtain ⟨p, r, u1, u2, u3, u4⟩ := take2_ev hq (by omega) (by omega)
  obtain ⟨b2, v1, v2, v3⟩ := rTake_ev b0 b1 (by omega) nb
  obtain ⟨o, o1, o2, o3⟩ := Small_ev 1 (by decide)
  obtain ⟨s5, x5, f1, f2, f3⟩ := Times_ev n0 b0 p b2 u2.1 v2 (by omega) (by omega)
  obtain ⟨s6, x6, g1, g2, g3⟩ := Times_ev d0 _ r o u2.2 o2 (by omega) (by omega)
  rw [Int.mul_comm] at f2
  rw [Int.mul_one] at g2
  obtain ⟨s7, x7, s8, x8, i1, i2, i3, i4⟩ := rLowest_ev s5 s6 x5 x6 f2 g2 (by omega) (by omega) (by omega)
  have htm : Rn (fun k => Fshuntref02_Times k n0 p d0 r b0 b2 (decide ((1 : Int) < 0)) o) (s7, x7, s8, x8) := Rn.up (f := fun k => Fshuntref02_Times k n0 p d0 r b0 b2 (decide ((1 : Int) < 0)) o) (Rn.bind f1 (Rn.bind g1 (Rn.bind i1 (Rn.pure _))))
  have hh := Held_ev s8 _ x8 o i2.2 o2 (by omega) (by omega)
  obtain ⟨c, hc, hcc⟩ := cmpZ_cases ((Rat.divInt (y * q.num) q.den).den : Int) 1
  rw [hc] at hh
  have hln := Length_ev s7 x7 (by omega)
  obtain ⟨gv, gv1, gv2, gv3⟩ := rGive_ev s7 x7 (by omega) i2.1
  rw [← gv3] at hln
  by_cases hz : (y * q.num).tmod q.den = 0
  case neg =>
    have hsz : ((y * q.num).tmod (q.den : Int)).sign ≠ 0 := fun h => hz (Int.sign_eq_zero_iff_zero.1 h)
    have hc0 : c ≠ 0 := by
      rcases hcc with ⟨h, _⟩ | ⟨_, h⟩ | ⟨h, _⟩
      · omega
      · exact absurd (w1.1 h) hz
      · omega
    refine ⟨false, [], 12, Rn.up (f := fun k => Frat_Whole k n0 n1 d0 d1 b0 b1) ?_, Rn.up (f := fun k => Fshuntref02_Whole k n0 n1 d0 d1 b0 b1) ?_, by simp⟩
    · exact Rn.bind c1 (Rn.t (by simp) (Rn.bind k1 (Rn.f (by simp) (Rn.f (by simp) (Rn.bind t1 (Rn.bind t2 (Rn.bind m1 (Rn.bind t3 (Rn.bind e1 (Rn.bind hsg (Rn.t (by simpa using hsz) (Rn.pure _))))))))))))
    · exact Rn.bind c2 (Rn.t (by simp) (Rn.bind k2 (Rn.f (by simp) (Rn.f (by simp) (Rn.bind u1 (Rn.bind v1 (Rn.bind o1 (Rn.bind htm (Rn.bind o1 (Rn.bind hh (Rn.t (by simpa using hc0) (Rn.pure _))))))))))))
  have hc0 : c = 0 := by
    have := w1.2 hz
    rcases hcc with ⟨_, h⟩ | ⟨h, _⟩ | ⟨_, h⟩ <;> omega
  subst hc0
  rw [hz] at hsg
  rw [w2 hz] at gv2
  obtain ⟨rfl, rfl⟩ := Nm.ext (B := W) (by decide) e2 gv2
  by_cases hl : lq.length ≤ 72
  · have gp := Give1_ev e2 (show lq.length ≤ 1000000000 by omega)
    refine ⟨sq, lq, 0, Rn.up (f := fun k => Frat_Whole k n0 n1 d0 d1 b0 b1) ?_, Rn.up (f := fun k => Fshuntref02_Whole k n0 n1 d0 d1 b0 b1) ?_, hl⟩
    · refine Rn.bind c1 (Rn.t (by simp) (Rn.bind k1 (Rn.f (by simp) (Rn.f (by simp) (Rn.bind t1 (Rn.bind t2 (Rn.bind m1 (Rn.bind t3 (Rn.bind e1 (Rn.bind hsg (Rn.f (by simp) (Rn.bind hlm (Rn.f (by simp; omega) (Rn.bind gp (Rn.t (by simp) ?_)))))))))))))))
      simp only [List.take_length]
      exact Rn.pure _
    · exact Rn.bind c2 (Rn.t (by simp) (Rn.bind k2 (Rn.f (by simp) (Rn.f (by simp) (Rn.bind u1 (Rn.bind v1 (Rn.bind o1 (Rn.bind htm (Rn.bind o1 (Rn.bind hh (Rn.f (by simp) (Rn.bind hln (Rn.f (by simp; omega) (Rn.bind gv1 (Rn.pure _)))))))))))))))
  · refine ⟨false, [], 13, Rn.up (f := fun k => Frat_Whole k n0 n1 d0 d1 b0 b1) ?_, Rn.up (f := fun k => Fshuntref02_Whole k n0 n1 d0 d1 b0 b1) ?_, by simp⟩
    · exact Rn.bind c1 (Rn.t (by simp) (Rn.bind k1 (Rn.f (by simp) (Rn.f (by simp) (Rn.bind t1 (Rn.bind t2 (Rn.bind m1 (Rn.bind t3 (Rn.bind e1 (Rn.bind hsg (Rn.f (by simp) (Rn.bind hlm (Rn.t (by simp; omega) (Rn.pure _))))))))))))))
    · exact Rn.bind c2 (Rn.t (by simp) (Rn.bind k2 (Rn.f (by simp) (Rn.f (by simp) (Rn.bind u1 (Rn.bind v1 (Rn.bind o1 (Rn.bind htm (Rn.bind o1 (Rn.bind hh (Rn.f (by simp) (Rn.bind hln (Rn.t (by simp; omega) (Rn.pure _)))))))))))))) 
end
end Go.Proofs.Ytjgpegpjmkgkkaa.Am

/- Every Make, Check, Round and Whole is the document's: the plain statement. -/
set_option linter.unusedVariables false
set_option linter.unusedSimpArgs false
set_option maxRecDepth 10000
namespace Go.Proofs.Ytjgpegpjmkgkkaa.Am
open Go
def sumL : List (Bool × List Int) → Int
  | [] => 0
  | r :: t => min (r.2.length : Int) 1000 + sumL t
theorem long_loop (l : List (Bool × List Int)) (hl : l.length ≤ 1000) : ∀ (d i : Nat) (n0 : Int), i + d = l.length → 0 ≤ n0 ∧ n0 ≤ 1000 * i → ∀ k n, d < n → Lshuntlaw02_long_0 k n n0 l l.length i = some (n0 + sumL (l.drop i)) := by
  intro d
  induction d with
  | zero =>
    intro i n0 hi h0 k n hn
    obtain ⟨n, rfl⟩ : ∃ m, n = m + 1 := ⟨n - 1, by omega⟩
    rw [List.drop_of_length_le (by omega)]
    show Lshuntlaw02_long_0s k (Lshuntlaw02_long_0 k n) _ _ _ _ = _
    unfold Lshuntlaw02_long_0s
    simp (config := { implicitDefEqProofs := false, maxSteps := 2000000 }) (disch := omega) only [ps, ↓reduceIte, reduceCtorEq, Int.reduceLT, Int.reduceLE, Int.reduceEq, Nat.reduceLT, Nat.reduceLeDiff, Nat.reduceEqDiff, Int.reduceNeg, eitherK, sumL, Int.add_zero]
  | succ d ih =>
    intro i n0 hi h0 k n hn
    obtain ⟨n, rfl⟩ : ∃ m, n = m + 1 := ⟨n - 1, by omega⟩
    have hil : i < l.length := by omega
    obtain ⟨r, hr⟩ : ∃ r, l[i]? = some r := ⟨l[i], List.getElem?_eq_getElem hil⟩
    have hdrop : l.drop i = r :: l.drop (i + 1) := by
      rw [List.drop_eq_getElem_cons hil]
      rw [List.getElem?_eq_getElem hil] at hr
      cases hr; rfl
    have h1 : ((i : Int) + 1) = ((i + 1 : Nat) : Int) := rfl
    rw [hdrop]
    simp only [sumL]
    rw [← Int.add_assoc, ← ih (i + 1) (n0 + min (r.2.length : Int) 1000) (by omega) (by omega) k n (by omega)]
    have hw : IntKind.wrap .i64 (n0 + min (r.2.length : Int) 1000) = n0 + min (r.2.length : Int) 1000 := wrap_i64 (by omega)
    show Lshuntlaw02_long_0s k (Lshuntlaw02_long_0 k n) _ _ _ _ = _
    unfold Lshuntlaw02_long_0s
    simp (config := { implicitDefEqProofs := false, maxSteps := 2000000 }) (disch := omega) only [ps, ↓reduceIte, reduceCtorEq, Int.reduceLT, Int.reduceLE, Int.reduceEq, Nat.reduceLT, Nat.reduceLeDiff, Nat.reduceEqDiff, Int.reduceNeg, eitherK, hr, h1, hw]
theorem long2_ev (l : List (Bool × List Int)) (hl : l.length ≤ 1000) : Rn (fun k => Fshuntlaw02_long k l) (decide (160 < sumL l)) := by
  refine Rn.up (f := fun k => Fshuntlaw02_long k l) (Rn.eq (l.length + 1) fun k hk => ?_)
  show bshuntlaw02_long k l = _
  unfold bshuntlaw02_long
  have h : Lshuntlaw02_long_0 k k 0 l l.length (0 : Int) = _ := long_loop l hl l.length 0 0 (by omega) (by omega) k k (by omega)
  rw [h]
  simp
theorem whole_same {a0 : Bool} {a1 : List Int} (h : a1.length ≤ 1000) : Rn (fun k => Fshuntref01_Same k a0 a1 a0 a1) true := by
  have := refSame_ev a0 a0 a1 a1 (by omega)
  simpa using this
set_option maxHeartbeats 1000000 in
theorem pure_RatOnes (x y : Bool × List Int) (r : RT) (wx : Wfd (.pr .bool (.sl (.int .u32))) x) (wy : Wfd (.pr .bool (.sl (.int .u32))) y) (wr : Wfd (.pr (.pr .bool (.sl (.int .u32))) (.pr .bool (.sl (.int .u32)))) r) :
    ∃ k, Fshuntlaw02_RatOnes k x.1 x.2 y.1 y.2 r.1.1 r.1.2 r.2.1 r.2.2 = some true := by
  have g := rt_good wr
  obtain ⟨⟨r0, r1⟩, r2, r3⟩ := r
  obtain ⟨a0, a1⟩ := x
  obtain ⟨b0, b1⟩ := y
  obtain ⟨⟨la, da⟩, lb, db⟩ := g
  obtain ⟨dx, lx⟩ := dg_of wx.2
  obtain ⟨dy, ly⟩ := dg_of wy.2
  simp only at da db la lb dx lx dy ly
  refine Rn.get (Rn.up (f := fun k => Fshuntlaw02_RatOnes k a0 a1 b0 b1 r0 r1 r2 r3) ?_)
  show Rn (fun k => bshuntlaw02_RatOnes k a0 a1 b0 b1 r0 r1 r2 r3) _
  unfold bshuntlaw02_RatOnes
  refine Rn.bind awake_ev ?_
  (first | (refine Rn.t ?hc ?_; case hc => simp (config := { implicitDefEqProofs := false, maxSteps := 2000000 }) (disch := omega) only [ps, ↓reduceIte, reduceCtorEq, Int.reduceLT, Int.reduceLE, Int.reduceEq, Nat.reduceLT, Nat.reduceLeDiff, Nat.reduceEqDiff, Int.reduceNeg, eitherK]) | (refine Rn.f ?hc ?_; case hc => simp (config := { implicitDefEqProofs := false, maxSteps := 2000000 }) (disch := omega) only [ps, ↓reduceIte, reduceCtorEq, Int.reduceLT, Int.reduceLE, Int.reduceEq, Nat.reduceLT, Nat.reduceLeDiff, Nat.reduceEqDiff, Int.reduceNeg, eitherK]))
  refine Rn.bind (f := fun k => Fshuntlaw02_long k (List.take 4 [(a0, a1), (b0, b1), (r0, r1), (r2, r3)])) (long2_ev _ (by simp)) ?_
  by_cases hs : 160 < sumL (List.take 4 [(a0, a1), (b0, b1), (r0, r1), (r2, r3)])
  · refine Rn.t (decide_eq_true hs) ?_
    exact Rn.pure _
  refine Rn.f (by simpa using hs) ?_
  have hs' : sumL [(a0, a1), (b0, b1), (r0, r1), (r2, r3)] ≤ 160 := Int.not_lt.1 hs
  simp only [sumL] at hs'
  obtain ⟨s, p, t, u, e, m1, m2, m3, m4⟩ := make_both lx ly dx dy (show a1.length ≤ 1000 by omega) (show b1.length ≤ 1000 by omega) (n0 := a0) (d0 := b0)
  obtain ⟨v, n1, n2⟩ := round_both la lb da db (n0 := r0) (d0 := r2)
  obtain ⟨ws, wp, we, w1, w2, w3⟩ := whole_both la lb lx da db dx (n0 := r0) (d0 := r2) (b0 := a0)
  have ck := ratCheck_ev la lb da db (n0 := r0) (d0 := r2)
  have fk := refFault_ev la lb da db (n0 := r0) (d0 := r2)
  refine Rn.bind m1 (Rn.bind m2 (Rn.bind n1 (Rn.bind n2 (Rn.bind w1 (Rn.bind w2 (Rn.bind (same2_t s t p u (by omega) (by omega)) ?_))))))
  (first | (refine Rn.t ?hc ?_; case hc => simp (config := { implicitDefEqProofs := false, maxSteps := 2000000 }) (disch := omega) only [ps, ↓reduceIte, reduceCtorEq, Int.reduceLT, Int.reduceLE, Int.reduceEq, Nat.reduceLT, Nat.reduceLeDiff, Nat.reduceEqDiff, Int.reduceNeg, eitherK]) | (refine Rn.f ?hc ?_; case hc => simp (config := { implicitDefEqProofs := false, maxSteps := 2000000 }) (disch := omega) only [ps, ↓reduceIte, reduceCtorEq, Int.reduceLT, Int.reduceLE, Int.reduceEq, Nat.reduceLT, Nat.reduceLeDiff, Nat.reduceEqDiff, Int.reduceNeg, eitherK]))
  refine Rn.t (by simp) ?_
  refine Rn.t (by simp) ?_
  refine Rn.t (by simp) ?_
  refine Rn.bind (whole_same (show wp.length ≤ 1000 by omega)) ?_
  (first | (refine Rn.t ?hc ?_; case hc => simp (config := { implicitDefEqProofs := false, maxSteps := 2000000 }) (disch := omega) only [ps, ↓reduceIte, reduceCtorEq, Int.reduceLT, Int.reduceLE, Int.reduceEq, Nat.reduceLT, Nat.reduceLeDiff, Nat.reduceEqDiff, Int.reduceNeg, eitherK]) | (refine Rn.f ?hc ?_; case hc => simp (config := { implicitDefEqProofs := false, maxSteps := 2000000 }) (disch := omega) only [ps, ↓reduceIte, reduceCtorEq, Int.reduceLT, Int.reduceLE, Int.reduceEq, Nat.reduceLT, Nat.reduceLeDiff, Nat.reduceEqDiff, Int.reduceNeg, eitherK]))
  refine Rn.t (by simp) ?_
  refine Rn.bind ck (Rn.bind fk ?_)
  exact Rn.const (by simp)
end Go.Proofs.Ytjgpegpjmkgkkaa.Am

/- The law RatOnesUpto returns true for every input, and its arguments read as they did. -/
namespace Go.Proofs.Ytjgpegpjmkgkkaa.ratOnesUpto
open Go.ChangeShapes Go.WideShapes Go.ChangeAt Go.RowKit
open Go.Proofs.Ytjgpegpjmkgkkaa.Am
set_option linter.unusedVariables false
theorem own : ownKnob Try.prog.godebug = none := by kernel_rfl
theorem laidOut : laidOutB Try.prog = true := by kernel_rfl
set_option maxRecDepth 100000 in
theorem lifted (os : Os) (started : os.Started) (H : Type) (enc : TypeId × Value → H) (F : Stop.Interp) :
    ReturnsInHanded {} Try.checked os 4 .any ((Rows.OpenSpec.upto Rows.ratOnesSpec).pre6 enc Try.prog Try.f4 Rows.ratOnesUptoRow.domain false) (((Rows.OpenSpec.upto Rows.ratOnesSpec).at F).post enc Try.prog Try.f4 false true false false) := by
  refine returnsInHanded_of_cond (C := Try.checked) (s := Rows.OpenSpec.upto Rows.ratOnesSpec) (k := Rows.uptoSmall) rfl own started (by kernel_rfl) Try.func4
    (OpenSpec.witness (enc := enc) (C := Try.checked) (s := Rows.OpenSpec.upto Rows.ratOnesSpec) (k := Rows.uptoSmall) rfl false ⟨#[], #[.agg #[.bool false, .slice none 0 0], .agg #[.bool false, .slice none 0 0], .agg #[.bool false, .slice none 0 0, .bool false, .slice none 0 0]], []⟩ 8 (by kernel_rfl) (by kernel_rfl) (by kernel_rfl)
      (x := ([.agg [.lit (.bool false), .nil], .agg [.lit (.bool false), .nil], .agg [.agg [.lit (.bool false), .nil], .agg [.lit (.bool false), .nil]]], [], [])) (by kernel_rfl) rfl (by kernel_rfl)) ?_
  intro W base args ds gs before hval0 hW _ _ _
  have hval : ∀ (j : Nat) t v, Try.f4.params[j]? = some t → args[j]? = some v → Value.okWide Try.prog W .any base t v := hval0
  have hW' := hW
  obtain ⟨p, q, hA0, hV, rfl, hfz, hnd⟩ := hW
  have hA : DataW.TrodAll enc Try.prog W 0 (fun _ => true) true Try.f4.params.toList args.toList ds p := hA0
  rw [Try.params4] at hA hval
  obtain ⟨v0, vs0, d0, ds0, p0, q0, hargs, rfl, rfl, h0, r0⟩ := trodAll_cons hA
  obtain ⟨v1, vs1, d1, ds1, p1, q1, rfl, rfl, rfl, h1, r1⟩ := trodAll_cons r0
  obtain ⟨v2, vs2, d2, ds2, p2, q2, rfl, rfl, rfl, h2, r2⟩ := trodAll_cons r1
  obtain ⟨rfl, rfl, rfl⟩ := trodAll_nil r2
  obtain rfl : args = #[v0, v1, v2] := by cases args; simp_all
  obtain ⟨rfl, rfl⟩ := trodVars_none hV
  have lt0 : ∀ x ∈ p0, x.block < W.heap.size := by obtain ⟨m, hm⟩ := h0; exact DataW.trod_lt m _ _ _ hm
  obtain ⟨y0, rv0, nm0, wf0⟩ := open_cd (d := 9) (c := (.pr .bool (.sl (.int .u32)))) true (by kernel_rfl) (by kernel_rfl) (by kernel_rfl) (hval 0 24 v0 rfl rfl) h0
  have lt1 : ∀ x ∈ p1, x.block < W.heap.size := by obtain ⟨m, hm⟩ := h1; exact DataW.trod_lt m _ _ _ hm
  obtain ⟨y1, rv1, nm1, wf1⟩ := open_cd (d := 9) (c := (.pr .bool (.sl (.int .u32)))) true (by kernel_rfl) (by kernel_rfl) (by kernel_rfl) (hval 1 24 v1 rfl rfl) h1
  have lt2 : ∀ x ∈ p2, x.block < W.heap.size := by obtain ⟨m, hm⟩ := h2; exact DataW.trod_lt m _ _ _ hm
  obtain ⟨y2, rv2, nm2, wf2⟩ := open_cd (d := 9) (c := (.pr (.pr .bool (.sl (.int .u32))) (.pr .bool (.sl (.int .u32))))) true (by kernel_rfl) (by kernel_rfl) (by kernel_rfl) (hval 2 26 v2 rfl rfl) h2
  clear hA0 hval0
  obtain ⟨k, hk⟩ := pure_RatOnes y0 y1 y2 wf0 wf1 wf2
  refine (law_inst cfg_ok (okshuntlaw02_RatOnes k) (x := (y0.1, y0.2, y1.1, y1.2, y2.1.1, y2.1.2, y2.2.1, y2.2.2)) (y := true) hk rfl (args := [argV true (.pr .bool (.sl (.int .u32))) y0, argV true (.pr .bool (.sl (.int .u32))) y1, argV true (.pr (.pr .bool (.sl (.int .u32))) (.pr .bool (.sl (.int .u32)))) y2]) rfl (rvs_cons rv0 (rvs_cons rv1 (rvs_cons rv2 rvs_nil))) (names_cons nm0 (names_cons nm1 (names_cons nm2 rfl)))).mono fun e W' ⟨he, bel⟩ => ?_
  subst he
  exact ⟨_, rfl, _, _, _, [], _, [], hW', trodAll_mk1 (shut_bool Try.underlying4 _), (trodAll_cons_mk (Below.trod laidOut (by kernel_rfl) (of_decide_eq_true (by kernel_rfl)) h0 bel lt0) (trodAll_cons_mk (Below.trod laidOut (by kernel_rfl) (of_decide_eq_true (by kernel_rfl)) h1 bel lt1) (trodAll_cons_mk (Below.trod laidOut (by kernel_rfl) (of_decide_eq_true (by kernel_rfl)) h2 bel lt2) trodAll_mk0))), rfl, bel.frame _, fun h => by cases h⟩
theorem over : Rows.ratOnesUptoRow.holds Try.pinned (Rows.OpenSpec.upto Rows.ratOnesSpec) :=
  OpenClaim.holds_of_cond 4 Try.f4 rfl rfl rfl rfl rfl rfl rfl ⟨rfl, rfl, rfl, rfl, rfl⟩ rfl rfl rfl rfl rfl (by kernel_rfl) Try.func4 (by kernel_rfl)
    (of_decide_eq_true (by kernel_rfl)) (by unfold Func.isWrapper; first | (rw [if_pos (by decide +kernel)]; kernel_rfl) | (rw [if_neg (by decide +kernel)]; exact ⟨rfl, rfl⟩))
    (fun os started H enc _ F => lifted os started H enc F)
theorem proved : Rows.RatOnesUptoSaid := over
#print axioms proved
end Go.Proofs.Ytjgpegpjmkgkkaa.ratOnesUpto
namespace Go.Proofs.Ytjgpegpjmkgkkaa
/-- The row, under a short name, for the claim. -/
theorem ratOnesUpto_holds : Rows.RatOnesUptoSaid := ratOnesUpto.proved
end Go.Proofs.Ytjgpegpjmkgkkaa
