/- The law ModelCalls returns true for every input, and its arguments read as they did. -/
import Derived.Test.YtbhnafdmilfobaaGreatMModelCalls1
import Derived.Test.YtbhnafdmilfobaaGreatRows
import Derived.WalkKit
import Derived.ProofKit
import Derived.OpenShut
import Derived.ShutString
import Derived.ChangeOld
import Derived.Below
import Derived.SizedLaws
import Derived.Carry

set_option linter.unusedVariables false
set_option linter.unusedSimpArgs false
set_option maxRecDepth 10000
namespace Go.Proofs.YtbhnafdmilfobaaGreat.Am
open Go

theorem U2 (i : Nat) : U ^ (2 * i) = W ^ i := by rw [Int.pow_mul]; rfl
theorem qpP (k : Nat) (a0 : Bool) (a1 : List Int) (hla : a1.length ≤ 1000000000) (ha : Dg W a1) :
    ∀ (d i n : Nat) (ds : List Int), i + d = a1.length → d < n → ds.length = 2 * i → Dg U ds → V U ds = V W (a1.take i) →
    ∃ ds', qau k n (2 * i) i a0 a1 false 0 ds [] = some (2 * a1.length, a0, a1, false, 0, ds', []) ∧ Dg U ds' ∧ ds'.length = 2 * a1.length ∧ V U ds' = V W a1 := by
  intro d
  induction d with
  | zero =>
    intro i n ds hi hn hl hd e
    obtain ⟨n, rfl⟩ : ∃ m, n = m + 1 := ⟨n - 1, by omega⟩
    have hia : i = a1.length := by omega
    subst hia
    refine ⟨ds, ?_, hd, hl, by rw [e, List.take_length]⟩
    show qcI k (qau k n) _ _ _ _ _ _ _ _ = _
    unfold qcI
    simp (config := { implicitDefEqProofs := false, maxSteps := 2000000 }) (disch := omega) only [ps, ↓reduceIte, reduceCtorEq, Int.reduceLT, Int.reduceLE, Int.reduceEq, Nat.reduceLT, Nat.reduceLeDiff, Nat.reduceEqDiff, Int.reduceNeg, qc]
  | succ d ih =>
    intro i n ds hi hn hl hd e
    obtain ⟨n, rfl⟩ : ∃ m, n = m + 1 := ⟨n - 1, by omega⟩
    obtain ⟨x, hx⟩ := qv (show i < a1.length by omega)
    have hxb := ha.get hx
    have h1 : ((i : Int) + 1) = ((i + 1 : Nat) : Int) := rfl
    have ht : ds.take (2 * i) = ds := List.take_of_length_le (by omega)
    have hdm := Int.emod_add_mul_ediv x 65536
    unfold W at hxb
    have hu : 0 ≤ x / 65536 ∧ x / 65536 < 65536 := by omega
    obtain ⟨ds', q1, q2⟩ := ih (i + 1) n (ds ++ [x % 65536, x / 65536]) (by omega) (by omega) (by simp [hl]; omega) (hd.append (Dg.cons (by unfold U; omega) (Dg.cons hu Dg.nil))) (by
      rw [qlL, qa9 hx, hl, U2, e]
      simp only [V]
      unfold U
      grind)
    refine ⟨ds', ?_, q2⟩
    rw [← q1]
    show qcI k (qau k n) _ _ _ _ _ _ _ _ = _
    unfold qcI
    have h2 : 2 * i + 2 = 2 * (i + 1) := by omega
    simp (config := { implicitDefEqProofs := false, maxSteps := 2000000 }) (disch := omega) only [ps, ↓reduceIte, reduceCtorEq, Int.reduceLT, Int.reduceLE, Int.reduceEq, Nat.reduceLT, Nat.reduceLeDiff, Nat.reduceEqDiff, Int.reduceNeg, qc, hx, h1, hl, ht, List.take_succ_cons, List.length_cons, qcM, qcN, h2]
theorem qij (a0 : Bool) (a1 : List Int) (hla : a1.length ≤ 1000000000) {z : Int} (hn : Nm W a0 a1 z) : ∃ l, Rn (fun k => qaR k a0 a1) (a0, l) ∧ Nm U a0 l z ∧ l.length ≤ 2 * a1.length := by
  have main := Cn.uniq (B := U) (v := V W a1) (L := 2 * a1.length) (f := fun k => (qaR (k + 1) a0 a1).map (·.2)) (by decide) (2 * a1.length + 3) fun k hk => by
    obtain ⟨ds, q1, q2, q3, q4⟩ := qpP k a0 a1 hla hn.c.1 a1.length 0 k [] (by omega) (by omega) rfl Dg.nil (by simp [V])
    have := qbl ds
    refine ⟨tl ds, ?_, Cn.of q2, by rw [qfv, q4], by omega⟩
    have q1' : qau k k 0 0 a0 a1 false 0 [] [] = _ := q1
    have ht := qgF ds (by omega) k (by omega)
    rw [q3] at ht
    show (qdz k a0 a1).map (·.2) = _
    unfold qdz
    rw [q1', Option.bind_some]
    simp only []
    rw [ht, Option.bind_some]
    cases a0
    · simp (config := { implicitDefEqProofs := false, maxSteps := 2000000 }) (disch := omega) only [ps, ↓reduceIte, reduceCtorEq, Int.reduceLT, Int.reduceLE, Int.reduceEq, Nat.reduceLT, Nat.reduceLeDiff, Nat.reduceEqDiff, Int.reduceNeg, qc]
      rw [qdQ]; rfl
    · simp (config := { implicitDefEqProofs := false, maxSteps := 2000000 }) (disch := omega) only [ps, ↓reduceIte, reduceCtorEq, Int.reduceLT, Int.reduceLE, Int.reduceEq, Nat.reduceLT, Nat.reduceLeDiff, Nat.reduceEqDiff, Int.reduceNeg, qc]
      rw [qdQ]; rfl
  obtain ⟨l, h1, h2, h3, h4⟩ := main
  have hzero : l = [] ↔ a1 = [] := by rw [h2.nil_iff (by decide), h3, hn.c.nil_iff (by decide)]
  have hnm : Nm U a0 l z := ⟨h2, fun hs h0 => hn.sg hs (hzero.1 h0), by rw [h3]; exact hn.z⟩
  refine ⟨l, ?_, hnm, h4⟩
  obtain ⟨K, h1⟩ := h1
  refine Rn.up (f := fun k => qaR k a0 a1) (Rn.eq (max K (2 * a1.length + 3)) fun k hk => ?_)
  have e := h1 k (by omega)
  obtain ⟨ds, q1, q2, q3, q4⟩ := qpP k a0 a1 hla hn.c.1 a1.length 0 k [] (by omega) (by omega) rfl Dg.nil (by simp [V])
  have q1' : qau k k 0 0 a0 a1 false 0 [] [] = _ := q1
  have ht := qgF ds (by omega) k (by omega)
  rw [q3] at ht
  have hl : tl ds = l := Cn.ext (B := U) (by decide) (Cn.of q2) h2 (by rw [qfv, q4, h3])
  have := qbl ds
  show qdz k a0 a1 = _
  unfold qdz
  rw [q1', Option.bind_some]
  simp only []
  rw [ht, Option.bind_some]
  cases a0
  · simp (config := { implicitDefEqProofs := false, maxSteps := 2000000 }) (disch := omega) only [ps, ↓reduceIte, reduceCtorEq, Int.reduceLT, Int.reduceLE, Int.reduceEq, Nat.reduceLT, Nat.reduceLeDiff, Nat.reduceEqDiff, Int.reduceNeg, qc]
    rw [qdQ, hl]
  · have hne : l ≠ [] := fun h0 => hn.sg rfl (hzero.1 h0)
    have hpos : 0 < l.length := by cases l with
      | nil => exact absurd rfl hne
      | cons _ _ => simp
    simp (config := { implicitDefEqProofs := false, maxSteps := 2000000 }) (disch := omega) only [ps, ↓reduceIte, reduceCtorEq, Int.reduceLT, Int.reduceLE, Int.reduceEq, Nat.reduceLT, Nat.reduceLeDiff, Nat.reduceEqDiff, Int.reduceNeg, qc, hl]
    have t := qdQ ds
    rw [hl] at t
    rw [t]; rfl

theorem Cn.of_ge {B : Int} (hB : 1 < B) {l : List Int} (h : Dg B l) (hg : l ≠ [] → B ^ (l.length - 1) ≤ V B l) : Cn B l := by
  refine ⟨h, (Cn.last h).2 ?_⟩
  rcases List.eq_nil_or_concat l with rfl | ⟨m, x, rfl⟩
  · exact .inl rfl
  · rw [List.concat_eq_append] at *
    refine .inr ⟨m, x, rfl, fun h0 => ?_⟩
    subst h0
    have := hg (by simp)
    rw [qdv, Int.mul_zero, Int.add_zero] at this
    have h2 := qdL (B := B) (by omega) (fun y hy => h y (by simp [hy]) : Dg B m)
    simp at this
    omega
theorem qpQ (k : Nat) (a0 : Bool) (a1 : List Int) (hla : a1.length ≤ 1000000000) (ha : Dg U a1) :
    ∀ (d j n : Nat) (m : List Int), a1.length ≤ 2 * (j + d) → 2 * j ≤ a1.length + 1 → d < n → m.length = j → Dg W m → V W m = V U (a1.take (2 * j)) →
    ∃ m', qat k n (2 * j : Nat) a0 a1 false 0 a0 j [] m = some (a0, a1, false, 0, a0, m'.length, [], m') ∧ Dg W m' ∧ m'.length = (a1.length + 1) / 2 ∧ V W m' = V U a1 := by
  intro d
  induction d with
  | zero =>
    intro j n m hj hj2 hn hl hd e
    obtain ⟨n, rfl⟩ : ∃ m, n = m + 1 := ⟨n - 1, by omega⟩
    refine ⟨m, ?_, hd, by omega, by rw [e, List.take_of_length_le (by omega)]⟩
    show qbi k (qat k n) _ _ _ _ _ _ _ _ _ = _
    unfold qbi
    simp (config := { implicitDefEqProofs := false, maxSteps := 2000000 }) (disch := omega) only [ps, ↓reduceIte, reduceCtorEq, Int.reduceLT, Int.reduceLE, Int.reduceEq, Nat.reduceLT, Nat.reduceLeDiff, Nat.reduceEqDiff, Int.reduceNeg, qc]
    rw [hl]
  | succ d ih =>
    intro j n m hj hj2 hn hl hd e
    obtain ⟨n, rfl⟩ : ∃ m, n = m + 1 := ⟨n - 1, by omega⟩
    by_cases h0 : 2 * j < a1.length
    · obtain ⟨x, hx⟩ := qv h0
      have hxb := ha.get hx
      unfold U at hxb
      have ht : m.take j = m := List.take_of_length_le (by omega)
      have h3 : (((2 * j : Nat) : Int) + 2) = ((2 * (j + 1) : Nat) : Int) := by omega
      have t1 := qa9 (B := U) hx
      have t2 := qfT (B := U) a1 (2 * j + 1)
      have hyb := ha.getD (B := U) (by decide) (2 * j + 1)
      generalize hy : a1[2 * j + 1]?.getD 0 = y at t2 hyb
      unfold U at hyb
      obtain ⟨m', q1, q2⟩ := ih (j + 1) n (m ++ [x + y * 65536]) (by omega) (by omega) (by omega) (by simp [hl]) (hd.snoc (by unfold W; omega)) (by
        rw [qdv, hl, show 2 * (j + 1) = 2 * j + 1 + 1 by omega, t2, t1, e, ← U2, Int.pow_succ]
        unfold U
        grind)
      refine ⟨m', ?_, q2⟩
      rw [← q1]
      show qbi k (qat k n) _ _ _ _ _ _ _ _ _ = _
      unfold qbi
      by_cases h4 : 2 * j + 1 < a1.length
      · have hy' : a1[2 * j + 1]? = some y := by obtain ⟨z, hz⟩ := qv h4; rw [hz] at hy ⊢; simpa using hy
        have h5 : (((2 * j : Nat) : Int) + 1) = ((2 * j + 1 : Nat) : Int) := rfl
        simp (config := { implicitDefEqProofs := false, maxSteps := 2000000 }) (disch := omega) only [ps, ↓reduceIte, reduceCtorEq, Int.reduceLT, Int.reduceLE, Int.reduceEq, Nat.reduceLT, Nat.reduceLeDiff, Nat.reduceEqDiff, Int.reduceNeg, qc, hx, hy', h5, h3, hl, ht, List.take_succ_cons, List.length_cons]
      · have hy' : y = 0 := by rw [← hy, List.getElem?_eq_none (by omega)]; rfl
        subst hy'
        simp (config := { implicitDefEqProofs := false, maxSteps := 2000000 }) (disch := omega) only [ps, ↓reduceIte, reduceCtorEq, Int.reduceLT, Int.reduceLE, Int.reduceEq, Nat.reduceLT, Nat.reduceLeDiff, Nat.reduceEqDiff, Int.reduceNeg, qc, hx, h3, hl, ht, List.take_succ_cons, List.length_cons, Int.zero_mul, Int.add_zero]
    · refine ⟨m, ?_, hd, by omega, by rw [e, List.take_of_length_le (by omega)]⟩
      show qbi k (qat k n) _ _ _ _ _ _ _ _ _ = _
      unfold qbi
      simp (config := { implicitDefEqProofs := false, maxSteps := 2000000 }) (disch := omega) only [ps, ↓reduceIte, reduceCtorEq, Int.reduceLT, Int.reduceLE, Int.reduceEq, Nat.reduceLT, Nat.reduceLeDiff, Nat.reduceEqDiff, Int.reduceNeg, qc]
      rw [hl]
theorem qsT (a0 : Bool) (a1 : List Int) (hla : a1.length ≤ 1000000000) {z : Int} (hn : Nm U a0 a1 z) : ∃ m, Rn (fun k => qcb k a0 a1) (a0, m) ∧ Nm W a0 m z ∧ m.length = (a1.length + 1) / 2 := by
  have cn : ∀ m, Dg W m → m.length = (a1.length + 1) / 2 → V W m = V U a1 → Cn W m := by
    intro m h1 h2 h3
    refine Cn.of_ge (by decide) h1 fun h0 => ?_
    have hl0 : m.length ≠ 0 := fun e => h0 (List.length_eq_zero_iff.1 e)
    have g := hn.c.ge (B := U) (by decide) (fun e => hl0 (by rw [h2, e]; rfl))
    have p := qhT (B := U) (by decide) (show 2 * (m.length - 1) ≤ a1.length - 1 by omega)
    rw [U2] at p
    omega
  obtain ⟨m0, q1, q2, q3, q4⟩ := qpQ (a1.length + 1) a0 a1 hla hn.c.1 a1.length 0 (a1.length + 1) [] (by omega) (by omega) (by omega) rfl Dg.nil (by simp [V])
  have c0 := cn m0 q2 q3 q4
  refine ⟨m0, Rn.up (f := fun k => qcb k a0 a1) (Rn.eq (a1.length + 1) fun k hk => ?_), ⟨c0, fun hs h0 => hn.sg hs ?_, by rw [q4]; exact hn.z⟩, q3⟩
  · obtain ⟨m, r1, r2, r3, r4⟩ := qpQ k a0 a1 hla hn.c.1 a1.length 0 k [] (by omega) (by omega) (by omega) rfl Dg.nil (by simp [V])
    have hm : m = m0 := Cn.ext (B := W) (by decide) (cn m r2 r3 r4) c0 (by rw [r4, q4])
    subst hm
    have r1' : qat k k 0 a0 a1 false 0 a0 0 [] [] = _ := r1
    show qfh k a0 a1 = _
    unfold qfh
    rw [r1', Option.bind_some]
    simp (config := { implicitDefEqProofs := false, maxSteps := 2000000 }) (disch := omega) only [ps, ↓reduceIte, reduceCtorEq, Int.reduceLT, Int.reduceLE, Int.reduceEq, Nat.reduceLT, Nat.reduceLeDiff, Nat.reduceEqDiff, Int.reduceNeg, qc, List.take_length]
  · rw [h0] at q4
    exact (hn.c.nil_iff (B := U) (by decide)).2 (by rw [← q4]; rfl)
theorem qtj (k : Nat) (a0 b0 : Bool) (a1 b1 : List Int) (hb : Dg U b1) (i : Nat) (a : Int) (hai : a1[i]? = some a) (ha : 0 ≤ a ∧ a < U) (n12 : Nat) (hn12 : n12 ≤ 2000000000) (hi : i + b1.length < n12) :
    ∀ (d j n : Nat) (carry : Int) (ds : List Int), j + d = b1.length → d < n → 0 ≤ carry ∧ carry < U → ds.length = n12 → Dg U ds →
    ∃ carry' ds', qaC k n n12 i carry j a0 a1 b0 b1 false 0 ds [] = some (n12, (i : Int), carry', a0, a1, b0, b1, false, 0, ds', []) ∧ (0 ≤ carry' ∧ carry' < U) ∧ ds'.length = n12 ∧ Dg U ds' ∧
      V U ds' + carry' * U ^ (i + b1.length) = V U ds + carry * U ^ (i + j) + a * U ^ (i + j) * V U (b1.drop j) ∧ ∀ p, i + b1.length ≤ p → ds'[p]? = ds[p]? := by
  intro d
  induction d with
  | zero =>
    intro j n carry ds hj hn hc hl hd
    obtain ⟨n, rfl⟩ : ∃ m, n = m + 1 := ⟨n - 1, by omega⟩
    have : j = b1.length := by omega
    subst this
    refine ⟨carry, ds, ?_, hc, hl, hd, ?_, fun p _ => rfl⟩
    · show qcw k (qaC k n) _ _ _ _ _ _ _ _ _ _ _ _ = _
      unfold qcw
      simp (config := { implicitDefEqProofs := false, maxSteps := 2000000 }) (disch := omega) only [ps, ↓reduceIte, reduceCtorEq, Int.reduceLT, Int.reduceLE, Int.reduceEq, Nat.reduceLT, Nat.reduceLeDiff, Nat.reduceEqDiff, Int.reduceNeg, qc]
    · rw [List.drop_length]; simp [V]
  | succ d ih =>
    intro j n carry ds hj hn hc hl hd
    obtain ⟨n, rfl⟩ : ∃ m, n = m + 1 := ⟨n - 1, by omega⟩
    obtain ⟨b, hbj⟩ := qv (show j < b1.length by omega)
    obtain ⟨o, ho⟩ := qv (show i + j < ds.length by omega)
    have hbb := hb.get hbj
    have hob := hd.get ho
    have h1 : ((j : Int) + 1) = ((j + 1 : Nat) : Int) := rfl
    have h2 : ((i : Int) + (j : Int)) = ((i + j : Nat) : Int) := rfl
    unfold U at ha hbb hob hc
    have hm1 := Int.mul_nonneg ha.1 hbb.1
    have hm2 : a * b ≤ 65535 * b := Int.mul_le_mul_of_nonneg_right (by omega) hbb.1
    have hdm := Int.emod_add_mul_ediv (o + a * b + carry) U
    obtain ⟨c', o', q1, q2, q3, q4, q5, q6⟩ := ih (j + 1) n ((o + a * b + carry) / U) (ds.set (i + j) ((o + a * b + carry) % U)) (by omega) (by omega) (by unfold U; omega) (by simpa using hl) (hd.set _ (by unfold U; omega))
    refine ⟨c', o', ?_, q2, q3, q4, ?_, fun p hp => ?_⟩
    · rw [← q1]
      show qcw k (qaC k n) _ _ _ _ _ _ _ _ _ _ _ _ = _
      unfold qcw
      simp (config := { implicitDefEqProofs := false, maxSteps := 2000000 }) (disch := omega) only [ps, ↓reduceIte, reduceCtorEq, Int.reduceLT, Int.reduceLE, Int.reduceEq, Nat.reduceLT, Nat.reduceLeDiff, Nat.reduceEqDiff, Int.reduceNeg, qc, hai, hbj, h1, h2, ho, qcM, qcN]
    · rw [q5, qgS _ ho, qcg hbj, ← Nat.add_assoc, Int.pow_succ]
      grind
    · rw [q6 p hp, List.getElem?_set_ne (by omega)]
theorem qtk (k : Nat) (a0 b0 : Bool) (a1 b1 : List Int) (ha : Dg U a1) (hb : Dg U b1) (hla : a1.length ≤ 1000000000) (hlb : b1.length ≤ 1000000000) (hk : b1.length < k) :
    ∀ (d i n : Nat) (ds : List Int), i + d = a1.length → d < n → ds.length = a1.length + b1.length → Dg U ds → V U ds = V U (a1.take i) * V U b1 → (∀ p, i + b1.length ≤ p → p < ds.length → ds[p]? = some 0) →
    ∃ ds', qaD k n (a1.length + b1.length) i a0 a1 b0 b1 false 0 ds [] = some (a1.length + b1.length, a0, a1, b0, b1, false, 0, ds', []) ∧ ds'.length = a1.length + b1.length ∧ Dg U ds' ∧ V U ds' = V U a1 * V U b1 := by
  intro d
  induction d with
  | zero =>
    intro i n ds hi hn hl hd e h0
    obtain ⟨n, rfl⟩ : ∃ m, n = m + 1 := ⟨n - 1, by omega⟩
    have : i = a1.length := by omega
    subst this
    refine ⟨ds, ?_, hl, hd, by rw [e, List.take_length]⟩
    show qcx k (qaD k n) _ _ _ _ _ _ _ _ _ _ = _
    unfold qcx
    simp (config := { implicitDefEqProofs := false, maxSteps := 2000000 }) (disch := omega) only [ps, ↓reduceIte, reduceCtorEq, Int.reduceLT, Int.reduceLE, Int.reduceEq, Nat.reduceLT, Nat.reduceLeDiff, Nat.reduceEqDiff, Int.reduceNeg, qc]
  | succ d ih =>
    intro i n ds hi hn hl hd e h0
    obtain ⟨n, rfl⟩ : ∃ m, n = m + 1 := ⟨n - 1, by omega⟩
    obtain ⟨a, hai⟩ := qv (show i < a1.length by omega)
    have hab := ha.get hai
    obtain ⟨c', o', q1, q2, q3, q4, q5, q6⟩ := qtj k a0 b0 a1 b1 hb i a hai hab (a1.length + b1.length) (by omega) (by omega) b1.length 0 k 0 ds (by omega) (by omega) (by decide) hl hd
    have hz : o'[i + b1.length]? = some 0 := by rw [q6 _ (Nat.le_refl _)]; exact h0 _ (Nat.le_refl _) (by omega)
    have h1 : ((i : Int) + 1) = ((i + 1 : Nat) : Int) := rfl
    have h2 : ((i : Int) + (b1.length : Int)) = ((i + b1.length : Nat) : Int) := rfl
    have e2 : V U (o'.set (i + b1.length) c') = V U (a1.take (i + 1)) * V U b1 := by
      rw [qgS _ hz, qa9 hai, Int.sub_zero]
      simp only [Nat.add_zero, List.drop_zero, Int.zero_mul, Int.add_zero] at q5
      rw [e] at q5
      rw [Int.add_mul, Int.mul_comm (U ^ i) a, ← q5, Int.mul_comm c']
    have e3 : ∀ p, (i + 1) + b1.length ≤ p → p < (o'.set (i + b1.length) c').length → (o'.set (i + b1.length) c')[p]? = some 0 := by
      intro p hp hpl
      rw [List.getElem?_set_ne (by omega), q6 p (by omega)]
      exact h0 p (by omega) (by simp at hpl; omega)
    obtain ⟨o2, r1, r2⟩ := ih (i + 1) n (o'.set (i + b1.length) c') (by omega) (by omega) (by simpa using q3) (q4.set _ q2) e2 e3
    refine ⟨o2, ?_, r2⟩
    rw [← r1]
    show qcx k (qaD k n) _ _ _ _ _ _ _ _ _ _ = _
    unfold qcx
    have q1' : qaC k k (a1.length + b1.length) i 0 0 a0 a1 b0 b1 false 0 ds [] = _ := q1
    unfold U at q2
    simp (config := { implicitDefEqProofs := false, maxSteps := 2000000 }) (disch := omega) only [ps, ↓reduceIte, reduceCtorEq, Int.reduceLT, Int.reduceLE, Int.reduceEq, Nat.reduceLT, Nat.reduceLeDiff, Nat.reduceEqDiff, Int.reduceNeg, qc, q1', h1, h2, hz, Int.zero_add]
theorem qdA (a0 b0 : Bool) (a1 b1 : List Int) {x y : Int} (nx : Nm U a0 a1 x) (ny : Nm U b0 b1 y) (hx : a1.length ≤ 1000000) (hy : b1.length ≤ 1000000) :
    ∃ s l, Rn (fun k => qz k a0 a1 b0 b1) (s, l) ∧ Nm U s l (x * y) ∧ l.length ≤ a1.length + b1.length := by
  have hU : (0 : Int) < U := by decide
  have main : ∀ k, a1.length + b1.length < k → ∃ ds', qaD k k (a1.length + b1.length) (0 : Int) a0 a1 b0 b1 false 0 (List.replicate (a1.length + b1.length) 0) [] = some (a1.length + b1.length, a0, a1, b0, b1, false, 0, ds', []) ∧ ds'.length = a1.length + b1.length ∧ Dg U ds' ∧ V U ds' = V U a1 * V U b1 := by
    intro k hk
    refine qtk k a0 b0 a1 b1 nx.c.1 ny.c.1 (by omega) (by omega) (by omega) a1.length 0 k _ (by omega) (by omega) (by simp) (Dg.rep _ hU) (by rw [qp2]; simp [V]) ?_
    intro p _ hp
    rw [List.getElem?_replicate_of_lt (by simpa using hp)]
  obtain ⟨o, q1, q2, q3, q4⟩ := main (a1.length + b1.length + 1) (by omega)
  have hto := qbl o
  have hdec : ∀ l : List Int, decide ((0 : Int) < (l.length : Int)) = decide (0 < l.length) := fun l => by congr 1; simp
  refine ⟨if (!(a0 == b0)) = true then decide (0 < (tl o).length) else false, tl o, ?_, (qoT (a0 := !(a0 == b0)) (Cn.of q3) (by rw [qfv, q4])).cast ?_, by omega⟩
  · refine Rn.up (f := fun k => qz k a0 a1 b0 b1) (Rn.eq (a1.length + b1.length + 3) fun k hk => ?_)
    show qeK k a0 a1 b0 b1 = _
    unfold qeK
    obtain ⟨o', r1, r2, r3, r4⟩ := main k (by omega)
    have ho : tl o' = tl o := Cn.ext hU (Cn.of r3) (Cn.of q3) (by rw [qfv, qfv, r4, q4])
    have hto' := qbl o'
    have h2 : ((a1.length : Int) + (b1.length : Int)) = ((a1.length + b1.length : Nat) : Int) := rfl
    have ht := qgF o' (by omega) k (by omega)
    rw [r2] at ht
    have htt := qdQ o'
    rw [ho] at ht htt hto'
    simp (config := { implicitDefEqProofs := false, maxSteps := 2000000 }) (disch := omega) only [ps, ↓reduceIte, reduceCtorEq, Int.reduceLT, Int.reduceLE, Int.reduceEq, Nat.reduceLT, Nat.reduceLeDiff, Nat.reduceEqDiff, Int.reduceNeg, qc, h2, r1, ht]
    by_cases hs : a0 = b0
    · simp (config := { implicitDefEqProofs := false, maxSteps := 2000000 }) (disch := omega) only [ps, ↓reduceIte, reduceCtorEq, Int.reduceLT, Int.reduceLE, Int.reduceEq, Nat.reduceLT, Nat.reduceLeDiff, Nat.reduceEqDiff, Int.reduceNeg, qc, hs, htt]
    · simp (config := { implicitDefEqProofs := false, maxSteps := 2000000 }) (disch := omega) only [ps, ↓reduceIte, reduceCtorEq, Int.reduceLT, Int.reduceLE, Int.reduceEq, Nat.reduceLT, Nat.reduceLeDiff, Nat.reduceEqDiff, Int.reduceNeg, qc, hs, htt, hdec]
  · rw [← nx.z, ← ny.z]
    cases a0 <;> cases b0 <;> simp [Int.neg_mul, Int.mul_neg]
end Go.Proofs.YtbhnafdmilfobaaGreat.Am

/- qp reckoning: the reference's division. -/
set_option linter.unusedVariables false
set_option linter.unusedSimpArgs false
set_option maxRecDepth 10000
namespace Go.Proofs.YtbhnafdmilfobaaGreat.Am
open Go

theorem qwd {X Y Q R : Int} (h : Y * Q + R = X) (h0 : 0 ≤ R) (h1 : R < Y) : Q = X / Y ∧ R = X % Y := by
  subst h
  have hY : Y ≠ 0 := by omega
  constructor
  · rw [Int.add_comm, Int.add_mul_ediv_left _ _ hY, Int.ediv_eq_zero_of_lt h0 h1]; omega
  · rw [Int.add_comm, Int.add_mul_emod_self_left, Int.emod_eq_of_lt h0 h1]
theorem qxZ (sx sy : Bool) {X Y : Int} (hX : 0 ≤ X) : (if sx then -X else X).tdiv (if sy then -Y else Y) = if (!(sx == sy)) then -(X / Y) else X / Y := by
  have h : X.tdiv Y = X / Y := qcM hX
  cases sx <;> cases sy <;> simp [Int.neg_tdiv, Int.tdiv_neg, h]
theorem qx0 (sx sy : Bool) {X Y : Int} (hX : 0 ≤ X) : (if sx then -X else X).tmod (if sy then -Y else Y) = if sx then -(X % Y) else X % Y := by
  have h : X.tmod Y = X % Y := qcN hX
  cases sx <;> cases sy <;> simp [Int.neg_tmod, Int.tmod_neg, h]
theorem qoU {q r b : Int} (hb : 0 < b) : b * q ≤ r ↔ q ≤ r / b := by
  rw [Int.le_ediv_iff_mul_le hb, Int.mul_comm]
theorem qvc (r b : List Int) (cr : Cn U r) (cb : Cn U b) (hb : 0 < V U b) (hlr : r.length ≤ 900000) (hlb : b.length ≤ 900000) :
    ∀ (m : Nat) (low high : Int), high - low < 2 ^ m → 0 ≤ low → low ≤ V U r / V U b → V U r / V U b ≤ high → high ≤ 65535 →
    ∃ K, ∀ k n, K ≤ k → m < n → qai k n r b low high = some (V U r / V U b) := by
  intro m
  induction m with
  | zero =>
    intro low high h1 h2 h3 h4 h5
    refine ⟨0, fun k n _ hn => ?_⟩
    obtain ⟨n, rfl⟩ : ∃ m, n = m + 1 := ⟨n - 1, by omega⟩
    have : low = V U r / V U b := by simp at h1; omega
    rw [← this] at h4 ⊢
    show qao k (qai k n) _ _ _ _ = _
    unfold qao
    simp at h1
    simp (config := { implicitDefEqProofs := false, maxSteps := 2000000 }) (disch := omega) only [ps, ↓reduceIte, reduceCtorEq, Int.reduceLT, Int.reduceLE, Int.reduceEq, Nat.reduceLT, Nat.reduceLeDiff, Nat.reduceEqDiff, Int.reduceNeg, qc]
  | succ m ih =>
    intro low high h1 h2 h3 h4 h5
    by_cases h : low < high
    · have hm : high - low < 2 * 2 ^ m := by rw [Int.pow_succ] at h1; omega
      obtain ⟨q, hq⟩ : ∃ q, q = (low + high + 1) / 2 := ⟨_, rfl⟩
      obtain ⟨l, ⟨K1, s1⟩, s2, s3⟩ := qfk q (by omega)
      have hq0 : decide (q < 0) = false := by simp; omega
      rw [hq0] at s1 s2
      obtain ⟨s, t, ⟨K2, t1⟩, t2, t3⟩ := qdA false false b l (qgG cb rfl) s2 (by omega) (by omega)
      obtain ⟨K3, c1⟩ := qpB t r (by omega) (by omega) t2.c cr
      have hvt : V U t = V U b * q := by
        have e := t2.abs (by decide)
        have : 0 ≤ V U b * q := Int.mul_nonneg (by omega) (by omega)
        omega
      rw [hvt] at c1
      have e1 : IntKind.i64.wrap (Int.tdiv (IntKind.i64.wrap (IntKind.i64.wrap (low + high) + 1)) 2) = q := by
        rw [qK (x := low + high) (by omega), qK (x := low + high + 1) (by omega), qcM (by omega), qK (by omega)]
        exact hq.symm
      by_cases hle : V U b * q ≤ V U r
      · obtain ⟨K4, i1⟩ := ih q high (by omega) (by omega) ((qoU hb).1 hle) h4 h5
        refine ⟨max K1 (max K2 (max K3 K4)), fun k n hk hn => ?_⟩
        obtain ⟨n, rfl⟩ : ∃ m, n = m + 1 := ⟨n - 1, by omega⟩
        rw [← i1 k n (by omega) (by omega)]
        have c := c1 k (by omega)
        obtain ⟨cz, hcz, hcases⟩ := qdX (V U b * q) (V U r)
        rw [hcz] at c
        have a1 := s1 k (by omega)
        have a2 := t1 k (by omega)
        show qao k (qai k n) _ _ _ _ = _
        unfold qao
        rw [e1]
        simp (config := { implicitDefEqProofs := false, maxSteps := 2000000 }) (disch := omega) only [ps, ↓reduceIte, reduceCtorEq, Int.reduceLT, Int.reduceLE, Int.reduceEq, Nat.reduceLT, Nat.reduceLeDiff, Nat.reduceEqDiff, Int.reduceNeg, qc, a1, a2, c]
      · have hgt : V U r / V U b ≤ q - 1 := by
          have := mt (qoU hb).2 hle
          omega
        obtain ⟨K4, i1⟩ := ih low (q - 1) (by omega) (by omega) h3 hgt (by omega)
        refine ⟨max K1 (max K2 (max K3 K4)), fun k n hk hn => ?_⟩
        obtain ⟨n, rfl⟩ : ∃ m, n = m + 1 := ⟨n - 1, by omega⟩
        rw [← i1 k n (by omega) (by omega)]
        have c := c1 k (by omega)
        obtain ⟨cz, hcz, hcases⟩ := qdX (V U b * q) (V U r)
        rw [hcz] at c
        have a1 := s1 k (by omega)
        have a2 := t1 k (by omega)
        show qao k (qai k n) _ _ _ _ = _
        unfold qao
        rw [e1]
        simp (config := { implicitDefEqProofs := false, maxSteps := 2000000 }) (disch := omega) only [ps, ↓reduceIte, reduceCtorEq, Int.reduceLT, Int.reduceLE, Int.reduceEq, Nat.reduceLT, Nat.reduceLeDiff, Nat.reduceEqDiff, Int.reduceNeg, qc, a1, a2, c]
    · refine ⟨0, fun k n _ hn => ?_⟩
      obtain ⟨n, rfl⟩ : ∃ m, n = m + 1 := ⟨n - 1, by omega⟩
      have : low = V U r / V U b := by omega
      rw [← this] at h4 ⊢
      show qao k (qai k n) _ _ _ _ = _
      unfold qao
      simp (config := { implicitDefEqProofs := false, maxSteps := 2000000 }) (disch := omega) only [ps, ↓reduceIte, reduceCtorEq, Int.reduceLT, Int.reduceLE, Int.reduceEq, Nat.reduceLT, Nat.reduceLeDiff, Nat.reduceEqDiff, Int.reduceNeg, qc]
theorem qx1 (r b : List Int) (cr : Cn U r) (cb : Cn U b) (hb : 0 < V U b) (hlr : r.length ≤ 900000) (hlb : b.length ≤ 900000) (hq : V U r < U * V U b) : Rn (fun k => qbd k r b) (V U r / V U b) := by
  refine Rn.up (f := fun k => qbd k r b) ?_
  show Rn (fun k => qeL k r b) _
  unfold qeL
  have hr0 := qt (B := U) (by decide) cr.1
  refine Rn.bind (qpB r b (by omega) (by omega) cr cb) ?_
  obtain ⟨cz, hcz, hcases⟩ := qdX (V U r) (V U b)
  rw [hcz]
  by_cases h : V U r < V U b
  · have : V U r / V U b = 0 := Int.ediv_eq_zero_of_lt hr0 h
    rw [this]
    (first | (refine Rn.t ?hc ?_; case hc => simp (config := { implicitDefEqProofs := false, maxSteps := 2000000 }) (disch := omega) only [ps, ↓reduceIte, reduceCtorEq, Int.reduceLT, Int.reduceLE, Int.reduceEq, Nat.reduceLT, Nat.reduceLeDiff, Nat.reduceEqDiff, Int.reduceNeg, qc]) | (refine Rn.f ?hc ?_; case hc => simp (config := { implicitDefEqProofs := false, maxSteps := 2000000 }) (disch := omega) only [ps, ↓reduceIte, reduceCtorEq, Int.reduceLT, Int.reduceLE, Int.reduceEq, Nat.reduceLT, Nat.reduceLeDiff, Nat.reduceEqDiff, Int.reduceNeg, qc]))
    exact Rn.pure _
  · have q0 : 0 ≤ V U r / V U b := Int.ediv_nonneg hr0 (by omega)
    have q1 : V U r / V U b < U := Int.ediv_lt_of_lt_mul hb hq
    have q2 : V U r / V U b < 65536 := q1
    obtain ⟨K, h1⟩ := qvc r b cr cb hb hlr hlb 16 0 65535 (by decide) (by decide) q0 (by omega) (by decide)
    (first | (refine Rn.t ?hc ?_; case hc => simp (config := { implicitDefEqProofs := false, maxSteps := 2000000 }) (disch := omega) only [ps, ↓reduceIte, reduceCtorEq, Int.reduceLT, Int.reduceLE, Int.reduceEq, Nat.reduceLT, Nat.reduceLeDiff, Nat.reduceEqDiff, Int.reduceNeg, qc]) | (refine Rn.f ?hc ?_; case hc => simp (config := { implicitDefEqProofs := false, maxSteps := 2000000 }) (disch := omega) only [ps, ↓reduceIte, reduceCtorEq, Int.reduceLT, Int.reduceLE, Int.reduceEq, Nat.reduceLT, Nat.reduceLeDiff, Nat.reduceEqDiff, Int.reduceNeg, qc]))
    exact Rn.bind (Rn.eq (K + 17) fun k hk => h1 k k (by omega) (by omega)) (Rn.pure _)
end Go.Proofs.YtbhnafdmilfobaaGreat.Am

/- qp reckoning: the reference's division, its main loop. -/
set_option linter.unusedVariables false
set_option linter.unusedSimpArgs false
set_option maxRecDepth 10000
namespace Go.Proofs.YtbhnafdmilfobaaGreat.Am
open Go

theorem qwe (b1 r : List Int) (x1 : Int) (hx : 0 ≤ x1 ∧ x1 < U) (cb : Cn U b1) (hb : 0 < V U b1) (cr : Cn U r) (hr : V U r < V U b1) (hlr : r.length ≤ 800000) (hlb : b1.length ≤ 800000) :
    ∃ d, (0 ≤ d ∧ d < U) ∧ Rn (fun k => qbd k (tl (x1 :: r)) b1) d ∧ Rn (fun k => qB k (1 + r.length) (x1 :: r)) ((tl (x1 :: r)).length, x1 :: r) ∧
      (d = 0 → V U (tl (x1 :: r)) < V U b1) ∧ (0 < d → ∃ l s t m, Rn (fun k => qL k d) (false, l) ∧ Rn (fun k => qz k false b1 false l) (s, t) ∧ Rn (fun k => qan k (tl (x1 :: r)) t) m ∧
        Cn U m ∧ V U m < V U b1 ∧ V U m + V U b1 * d = x1 + U * V U r ∧ m.length ≤ b1.length) := by
  have hr0 := qt (B := U) (by decide) cr.1
  have dn : Dg U (x1 :: r) := Dg.cons hx cr.1
  have cn : Cn U (tl (x1 :: r)) := Cn.of dn
  have vn : V U (tl (x1 :: r)) = x1 + U * V U r := by rw [qfv]; rfl
  have ln := qbl (x1 :: r)
  have hlen : (x1 :: r).length = r.length + 1 := rfl
  have hlt : V U (tl (x1 :: r)) < U * V U b1 := by
    have : U * (V U r + 1) ≤ U * V U b1 := Int.mul_le_mul_of_nonneg_left (by omega) (by decide)
    rw [vn]; rw [Int.mul_add, Int.mul_one] at this; omega
  have hn0 := qt (B := U) (by decide) cn.1
  have hd := qx1 (tl (x1 :: r)) b1 cn cb hb (by omega) (by omega) hlt
  have q0 : 0 ≤ V U (tl (x1 :: r)) / V U b1 := Int.ediv_nonneg hn0 (by omega)
  have q1 : V U (tl (x1 :: r)) / V U b1 < U := Int.ediv_lt_of_lt_mul hb hlt
  have qm := Int.emod_add_mul_ediv (V U (tl (x1 :: r))) (V U b1)
  have qa := Int.emod_nonneg (V U (tl (x1 :: r))) (show V U b1 ≠ 0 by omega)
  have qb := Int.emod_lt_of_pos (V U (tl (x1 :: r))) hb
  refine ⟨_, ⟨q0, q1⟩, hd, ?_, ?_, ?_⟩
  · have := qxW (1 + r.length) (x1 :: r) (by omega) (by omega)
    rwa [List.take_of_length_le (by omega)] at this
  · intro h; rw [h] at qm; omega
  · intro h
    generalize V U (tl (x1 :: r)) / V U b1 = d at *
    have q2 : d < 65536 := q1
    obtain ⟨l, s1, s2, s3⟩ := qfk d (by omega)
    have hq0 : decide (d < 0) = false := by simp; omega
    rw [hq0] at s1 s2
    obtain ⟨s, t, t1, t2, t3⟩ := qdA false false b1 l (qgG cb rfl) s2 (by omega) (by omega)
    have hvt : V U t = V U b1 * d := by
      have e := t2.abs (by decide)
      have : 0 ≤ V U b1 * d := Int.mul_nonneg (by omega) (by omega)
      omega
    obtain ⟨m, m1, m2, m3, m4⟩ := qms (tl (x1 :: r)) t (by omega) cn.1 t2.c (by omega)
    refine ⟨l, s, t, m, s1, t1, m1, m2, by omega, by omega, ?_⟩
    refine Nat.le_of_not_lt fun hlt => ?_
    have := Cn.len_lt (B := U) (by decide) cb m2 hlt
    omega
def Dst (q : Nat) (i : Int) (a0 : Bool) (a1 : List Int) (b0 : Bool) (b1 qs r : List Int) (x : ((Nat × Nat × Int × Bool × List Int × Bool × List Int × Bool × Nat × Bool × Nat × List Int × List Int × List Int × List Int) ⊕ (Nat × List Int × Int × Bool × List Int × Bool × List Int × Bool × Nat × Bool × Nat × List Int × List Int × List Int))) : Prop :=
  (∃ mem m1 m2, x = .inl (q, r.length, i, a0, a1, b0, b1, false, 0, false, 0, qs, mem, m1, m2) ∧ r.length ≤ mem.length ∧ mem.take r.length = r) ∨ (∃ m1 m2, x = .inr (q, r, i, a0, a1, b0, b1, false, 0, false, 0, qs, m1, m2))
def qJP (q : Nat) (a0 : Bool) (a1 : List Int) (b0 : Bool) (b1 qs r : List Int) (x : ((Nat × Nat × Bool × List Int × Bool × List Int × Bool × Nat × Bool × Nat × List Int × List Int × List Int × List Int) ⊕ (Nat × List Int × Bool × List Int × Bool × List Int × Bool × Nat × Bool × Nat × List Int × List Int × List Int))) : Prop :=
  (∃ mem m1 m2, x = .inl (q, r.length, a0, a1, b0, b1, false, 0, false, 0, qs, mem, m1, m2) ∧ r.length ≤ mem.length ∧ mem.take r.length = r) ∨ (∃ m1 m2, x = .inr (q, r, a0, a1, b0, b1, false, 0, false, 0, qs, m1, m2))
theorem qtK {b vq vr x d va vm : Int} (h : b * vq + vr = va) (e : vm + b * d = x + U * vr) : b * (d + U * vq) + vm = x + U * va := by
  subst h; grind
theorem qx2 (a0 b0 : Bool) (a1 b1 : List Int) (da : Dg U a1) (cb : Cn U b1) (hb : 0 < V U b1) (hla : a1.length ≤ 800000) (hlb : b1.length ≤ 800000) :
    ∀ (e : Nat) (qs r : List Int) x, e ≤ a1.length → qs.length = a1.length → Dg U qs → Cn U r → V U r < V U b1 → V U b1 * V U (qs.drop e) + V U r = V U (a1.drop e) → Dst a1.length ((e : Int) - 1) a0 a1 b0 b1 qs r x →
    ∃ qs' r' y, qJP a1.length a0 a1 b0 b1 qs' r' y ∧ (qs'.length = a1.length ∧ Dg U qs' ∧ Cn U r' ∧ V U r' < V U b1 ∧ V U b1 * V U qs' + V U r' = V U a1) ∧ ∃ K, ∀ k n, K ≤ k → e < n → qI k n x = some y := by
  intro e
  induction e with
  | zero =>
    intro qs r x he hl dq cr hr hv hx
    rcases hx with ⟨mem, m1, m2, rfl, h1, h2⟩ | ⟨m1, m2, rfl⟩
    · refine ⟨qs, r, _, .inl ⟨mem, m1, m2, rfl, h1, h2⟩, ⟨hl, dq, cr, hr, by simpa using hv⟩, 0, fun k n _ hn => ?_⟩
      obtain ⟨n, rfl⟩ : ∃ m, n = m + 1 := ⟨n - 1, by omega⟩
      show qE k (qI k n) _ = _
      unfold qE
      simp (config := { implicitDefEqProofs := false, maxSteps := 2000000 }) (disch := omega) only [ps, ↓reduceIte, reduceCtorEq, Int.reduceLT, Int.reduceLE, Int.reduceEq, Nat.reduceLT, Nat.reduceLeDiff, Nat.reduceEqDiff, Int.reduceNeg, qc, qc, Int.zero_sub, Int.natCast_zero]
    · refine ⟨qs, r, _, .inr ⟨m1, m2, rfl⟩, ⟨hl, dq, cr, hr, by simpa using hv⟩, 0, fun k n _ hn => ?_⟩
      obtain ⟨n, rfl⟩ : ∃ m, n = m + 1 := ⟨n - 1, by omega⟩
      show qE k (qI k n) _ = _
      unfold qE
      simp (config := { implicitDefEqProofs := false, maxSteps := 2000000 }) (disch := omega) only [ps, ↓reduceIte, reduceCtorEq, Int.reduceLT, Int.reduceLE, Int.reduceEq, Nat.reduceLT, Nat.reduceLeDiff, Nat.reduceEqDiff, Int.reduceNeg, qc, qc, Int.zero_sub, Int.natCast_zero]
  | succ j ih =>
    intro qs r x he hl dq cr hr hv hx
    have hlr : r.length ≤ b1.length := by
      refine Nat.le_of_not_lt fun hlt => ?_
      have := Cn.len_lt (B := U) (by decide) cb cr hlt
      omega
    obtain ⟨x1, hx1⟩ := qv (show j < a1.length by omega)
    obtain ⟨x2, hx2⟩ := qv (show j < qs.length by omega)
    obtain ⟨d, hd, ⟨K1, h1⟩, ⟨K2, h2⟩, h3, h4⟩ := qwe b1 r x1 (da.get hx1) cb hb cr hr (by omega) hlb
    have hjj : ((j + 1 : Nat) : Int) - 1 = (j : Int) := by omega
    have hdrop : (qs.set j d).drop j = d :: qs.drop (j + 1) := by
      rw [List.drop_eq_getElem_cons (by simp; omega)]
      simp [List.drop_set_of_lt]
    have htl := qdQ (x1 :: r)
    have ltl := qbl (x1 :: r)
    have hlen : (x1 :: r).length = r.length + 1 := rfl
    have hVa := qcg (B := U) hx1
    rw [hjj] at hx
    by_cases hd0 : d = 0
    · have hlt := h3 hd0
      subst hd0
      have cn : Cn U (tl (x1 :: r)) := Cn.of (Dg.cons (da.get hx1) cr.1)
      have vn : V U (tl (x1 :: r)) = x1 + U * V U r := by rw [qfv]; rfl
      have key := ih (qs.set j 0) (tl (x1 :: r))
      have hvv : V U b1 * V U ((qs.set j 0).drop j) + V U (tl (x1 :: r)) = V U (a1.drop j) := by
        rw [hdrop, hVa]; simp only [V]; exact qtK hv (by rw [vn]; omega)
      rcases hx with ⟨mem, m1, m2, rfl, g1, g2⟩ | ⟨m1, m2, rfl⟩
      · obtain ⟨qs', r', y, i1, i2, K, i3⟩ := key _ (by omega) (by simpa using hl) (dq.set j hd) cn hlt hvv (.inl ⟨x1 :: r, m1, m2, rfl, ltl, htl⟩)
        refine ⟨qs', r', y, i1, i2, max K (max K1 K2), fun k n hk hn => ?_⟩
        obtain ⟨n, rfl⟩ : ∃ m, n = m + 1 := ⟨n - 1, by omega⟩
        rw [← i3 k n (by omega) (by omega)]
        have c1 := h1 k (by omega)
        have c2 := h2 k (by omega)
        show qE k (qI k n) _ = _
        unfold qE
        simp only [qc]
        simp (config := { implicitDefEqProofs := false, maxSteps := 2000000 }) (disch := omega) only [ps, ↓reduceIte, reduceCtorEq, Int.reduceLT, Int.reduceLE, Int.reduceEq, Nat.reduceLT, Nat.reduceLeDiff, Nat.reduceEqDiff, Int.reduceNeg, qc, g2, hx1, hx2, c1, c2, htl, List.take_succ_cons, List.cons_append]
      · obtain ⟨qs', r', y, i1, i2, K, i3⟩ := key _ (by omega) (by simpa using hl) (dq.set j hd) cn hlt hvv (.inl ⟨x1 :: r, m1, m2, rfl, ltl, htl⟩)
        refine ⟨qs', r', y, i1, i2, max K (max K1 K2), fun k n hk hn => ?_⟩
        obtain ⟨n, rfl⟩ : ∃ m, n = m + 1 := ⟨n - 1, by omega⟩
        rw [← i3 k n (by omega) (by omega)]
        have c1 := h1 k (by omega)
        have c2 := h2 k (by omega)
        show qE k (qI k n) _ = _
        unfold qE
        simp only [qc]
        simp (config := { implicitDefEqProofs := false, maxSteps := 2000000 }) (disch := omega) only [ps, ↓reduceIte, reduceCtorEq, Int.reduceLT, Int.reduceLE, Int.reduceEq, Nat.reduceLT, Nat.reduceLeDiff, Nat.reduceEqDiff, Int.reduceNeg, qc, hx1, hx2, c1, c2, htl, List.take_succ_cons, List.cons_append]
    · obtain ⟨l, s, t, m, ⟨K3, s1⟩, ⟨K4, s2⟩, ⟨K5, s3⟩, s4, s5, s6, s7⟩ := h4 (by omega)
      have key := ih (qs.set j d) m
      have hvv : V U b1 * V U ((qs.set j d).drop j) + V U m = V U (a1.drop j) := by
        rw [hdrop, hVa]; simp only [V]; exact qtK hv s6
      rcases hx with ⟨mem, m1, m2, rfl, g1, g2⟩ | ⟨m1, m2, rfl⟩
      · obtain ⟨qs', r', y, i1, i2, K, i3⟩ := key _ (by omega) (by simpa using hl) (dq.set j hd) s4 s5 hvv (.inr ⟨m1, m2, rfl⟩)
        refine ⟨qs', r', y, i1, i2, max K (max (max K1 K2) (max K3 (max K4 K5))), fun k n hk hn => ?_⟩
        obtain ⟨n, rfl⟩ : ∃ m, n = m + 1 := ⟨n - 1, by omega⟩
        rw [← i3 k n (by omega) (by omega)]
        have c1 := h1 k (by omega)
        have c2 := h2 k (by omega)
        have c3 := s1 k (by omega)
        have c4 := s2 k (by omega)
        have c5 := s3 k (by omega)
        show qE k (qI k n) _ = _
        unfold qE
        simp only [qc]
        simp (config := { implicitDefEqProofs := false, maxSteps := 2000000 }) (disch := omega) only [ps, ↓reduceIte, reduceCtorEq, Int.reduceLT, Int.reduceLE, Int.reduceEq, Nat.reduceLT, Nat.reduceLeDiff, Nat.reduceEqDiff, Int.reduceNeg, qc, g2, hx1, hx2, c1, c2, c3, c4, c5, htl, List.take_succ_cons, List.cons_append]
      · obtain ⟨qs', r', y, i1, i2, K, i3⟩ := key _ (by omega) (by simpa using hl) (dq.set j hd) s4 s5 hvv (.inr ⟨m1, m2, rfl⟩)
        refine ⟨qs', r', y, i1, i2, max K (max (max K1 K2) (max K3 (max K4 K5))), fun k n hk hn => ?_⟩
        obtain ⟨n, rfl⟩ : ∃ m, n = m + 1 := ⟨n - 1, by omega⟩
        rw [← i3 k n (by omega) (by omega)]
        have c1 := h1 k (by omega)
        have c2 := h2 k (by omega)
        have c3 := s1 k (by omega)
        have c4 := s2 k (by omega)
        have c5 := s3 k (by omega)
        show qE k (qI k n) _ = _
        unfold qE
        simp only [qc]
        simp (config := { implicitDefEqProofs := false, maxSteps := 2000000 }) (disch := omega) only [ps, ↓reduceIte, reduceCtorEq, Int.reduceLT, Int.reduceLE, Int.reduceEq, Nat.reduceLT, Nat.reduceLeDiff, Nat.reduceEqDiff, Int.reduceNeg, qc, hx1, hx2, c1, c2, c3, c4, c5, htl, List.take_succ_cons, List.cons_append]
end Go.Proofs.YtbhnafdmilfobaaGreat.Am

/- qp reckoning: numbers lent and looked at again; the reference's calls of two numbers. -/
set_option linter.unusedVariables false
set_option linter.unusedSimpArgs false
set_option maxRecDepth 10000
namespace Go.Proofs.YtbhnafdmilfobaaGreat.Am
open Go

abbrev mk (a1 : List Int) : List Int := a1 ++ [11259375]
section
variable {a0 b0 : Bool} {a1 b1 : List Int} (la : a1.length ≤ 9223372036854775807) (lb : b1.length ≤ 9223372036854775807) (da : Dg W a1) (db : Dg W b1)
include la lb da db
end
end Go.Proofs.YtbhnafdmilfobaaGreat.Am

/- qp reckoning: the reference's division and common divisor, whole. -/
set_option linter.unusedVariables false
set_option linter.unusedSimpArgs false
set_option maxRecDepth 10000
namespace Go.Proofs.YtbhnafdmilfobaaGreat.Am
open Go

set_option maxHeartbeats 1000000 in
theorem qf4 (a0 b0 : Bool) (a1 b1 : List Int) {x y : Int} (nx : Nm U a0 a1 x) (ny : Nm U b0 b1 y) (hla : a1.length ≤ 800000) (hlb : b1.length ≤ 800000) (hb0 : b1 ≠ []) :
    ∃ s q t r, Rn (fun k => qas k a0 a1 b0 b1) (s, q, t, r) ∧ Nm U s q (x.tdiv y) ∧ Nm U t r (x.tmod y) ∧ q.length ≤ a1.length ∧ r.length ≤ b1.length := by
  have hb : 0 < V U b1 := by
    have p := qt (B := U) (by decide) ny.c.1
    have := mt (ny.c.nil_iff (B := U) (by decide)).2 hb0
    omega
  have pa := qt (B := U) (by decide) nx.c.1
  obtain ⟨qs, r, z, hz, ⟨lq, dq, cr, hr, hv⟩, K, hl⟩ := qx2 a0 b0 a1 b1 nx.c.1 ny.c hb hla hlb a1.length (List.replicate a1.length 0) [] _ (Nat.le_refl _) (by simp) (Dg.rep _ (by decide)) Cn.nil (by simpa [V] using hb) (by
    rw [List.drop_of_length_le (by simp), List.drop_of_length_le (by simp)]; simp [V]) (.inl ⟨[], [], [], rfl, by simp, rfl⟩)
  have hr0 := qt (B := U) (by decide) cr.1
  have hu := qwd hv hr0 hr
  have cq : Cn U (tl qs) := Cn.of dq
  have e1 := qxZ a0 b0 (Y := V U b1) pa
  have e2 := qx0 a0 b0 (Y := V U b1) pa
  rw [nx.z, ny.z, ← hu.1] at e1
  rw [nx.z, ny.z, ← hu.2] at e2
  have n1 := qoT (a0 := !(a0 == b0)) cq (qfv qs)
  have n2 := qoT (a0 := a0) cr rfl
  have ltq := qbl qs
  refine ⟨_, _, _, _, ?_, n1.cast e1.symm, n2.cast e2.symm, by omega, ?_⟩
  · refine Rn.up (f := fun k => qas k a0 a1 b0 b1) (Rn.eq (K + a1.length + 4) fun k hk => ?_)
    show qex k a0 a1 b0 b1 = _
    unfold qex
    have hdec : ∀ l : List Int, decide ((0 : Int) < (l.length : Int)) = decide (0 < l.length) := fun l => by congr 1; simp
    have h1 : qI k k (Sum.inl (a1.length, 0, (a1.length : Int) - 1, a0, a1, b0, b1, false, 0, false, 0, List.replicate a1.length 0, [], [], [])) = some z := hl k k (by omega) (by omega)
    have h2 := qgF qs (by omega) k (by omega)
    rw [lq] at h2
    have h3 := qdQ qs
    rcases hz with ⟨mem, m1, m2, rfl, g1, g2⟩ | ⟨m1, m2, rfl⟩
    · simp (config := { implicitDefEqProofs := false, maxSteps := 2000000 }) (disch := omega) only [ps, ↓reduceIte, reduceCtorEq, Int.reduceLT, Int.reduceLE, Int.reduceEq, Nat.reduceLT, Nat.reduceLeDiff, Nat.reduceEqDiff, Int.reduceNeg, qc, h1]
      simp (config := { implicitDefEqProofs := false, maxSteps := 2000000 }) (disch := omega) only [ps, ↓reduceIte, reduceCtorEq, Int.reduceLT, Int.reduceLE, Int.reduceEq, Nat.reduceLT, Nat.reduceLeDiff, Nat.reduceEqDiff, Int.reduceNeg, qc, h2, g1]
      cases a0 <;> cases b0 <;> simp (config := { implicitDefEqProofs := false, maxSteps := 2000000 }) (disch := omega) only [ps, ↓reduceIte, reduceCtorEq, Int.reduceLT, Int.reduceLE, Int.reduceEq, Nat.reduceLT, Nat.reduceLeDiff, Nat.reduceEqDiff, Int.reduceNeg, qc, h3, g2, hdec, if_true, if_false]
    · simp (config := { implicitDefEqProofs := false, maxSteps := 2000000 }) (disch := omega) only [ps, ↓reduceIte, reduceCtorEq, Int.reduceLT, Int.reduceLE, Int.reduceEq, Nat.reduceLT, Nat.reduceLeDiff, Nat.reduceEqDiff, Int.reduceNeg, qc, h1]
      simp (config := { implicitDefEqProofs := false, maxSteps := 2000000 }) (disch := omega) only [ps, ↓reduceIte, reduceCtorEq, Int.reduceLT, Int.reduceLE, Int.reduceEq, Nat.reduceLT, Nat.reduceLeDiff, Nat.reduceEqDiff, Int.reduceNeg, qc, h2]
      cases a0 <;> cases b0 <;> simp (config := { implicitDefEqProofs := false, maxSteps := 2000000 }) (disch := omega) only [ps, ↓reduceIte, reduceCtorEq, Int.reduceLT, Int.reduceLE, Int.reduceEq, Nat.reduceLT, Nat.reduceLeDiff, Nat.reduceEqDiff, Int.reduceNeg, qc, h3, hdec, if_true, if_false]
  · refine Nat.le_of_not_lt fun hlt => ?_
    have := Cn.len_lt (B := U) (by decide) ny.c cr hlt
    omega
theorem qtl (x0 : Bool) (x1 : Nat) (m : List Int) (M : Nat) (hM : M ≤ 800000) : ∀ (N : Nat) (a b : List Int), V U b ≤ N → Cn U a → Cn U b → a.length ≤ M → b.length ≤ M →
    ∃ l b1, (∃ K, ∀ k n, K ≤ k → N < n → qaM k n false a false b x0 x1 m = some (false, l, false, b1, x0, x1, m)) ∧ Cn U l ∧ V U l = Int.gcd (V U a) (V U b) ∧ l.length ≤ M := by
  intro N
  induction N using Nat.strongRecOn with
  | ind N ih =>
    intro a b hN ca cb ha hb
    have pa := qt (B := U) (by decide) ca.1
    by_cases h0 : b = []
    · subst h0
      refine ⟨a, [], ⟨0, fun k n _ hn => ?_⟩, ca, by simp [V]; omega, ha⟩
      obtain ⟨n, rfl⟩ : ∃ m, n = m + 1 := ⟨n - 1, by omega⟩
      show qcm k (qaM k n) _ _ _ _ _ _ _ = _
      unfold qcm
      simp (config := { implicitDefEqProofs := false, maxSteps := 2000000 }) (disch := omega) only [ps, ↓reduceIte, reduceCtorEq, Int.reduceLT, Int.reduceLE, Int.reduceEq, Nat.reduceLT, Nat.reduceLeDiff, Nat.reduceEqDiff, Int.reduceNeg, qc]
    · have pb : 0 < V U b := by
        have p := qt (B := U) (by decide) cb.1
        have := mt (cb.nil_iff (B := U) (by decide)).2 h0
        omega
      obtain ⟨s, q, t, r, ⟨K1, h1⟩, h2, h3, h4, h5⟩ := qf4 false false a b (qgG ca rfl) (qgG cb rfl) (by omega) (by omega) h0
      have hr0 := Int.emod_nonneg (V U a) (show V U b ≠ 0 by omega)
      have hr1 := Int.emod_lt_of_pos (V U a) pb
      rw [qcN pa] at h3
      obtain ⟨R, hR⟩ := Int.eq_ofNat_of_zero_le hr0
      have ht : t = false := by rw [h3.neg (by decide)]; simp; omega
      subst ht
      have hvr : V U r = R := by rw [h3.abs (by decide), hR]; rfl
      obtain ⟨l, b1, ⟨K2, i1⟩, i2, i3, i4⟩ := ih R (by omega) b r (by omega) cb h3.c hb (by omega)
      refine ⟨l, b1, ⟨max K1 K2, fun k n hk hn => ?_⟩, i2, ?_, i4⟩
      · obtain ⟨n, rfl⟩ : ∃ m, n = m + 1 := ⟨n - 1, by omega⟩
        rw [← i1 k n (by omega) (by omega)]
        have c1 := h1 k (by omega)
        have lb : 0 < b.length := by
          cases b with
          | nil => exact absurd rfl h0
          | cons _ _ => simp
        show qcm k (qaM k n) _ _ _ _ _ _ _ = _
        unfold qcm
        simp (config := { implicitDefEqProofs := false, maxSteps := 2000000 }) (disch := omega) only [ps, ↓reduceIte, reduceCtorEq, Int.reduceLT, Int.reduceLE, Int.reduceEq, Nat.reduceLT, Nat.reduceLeDiff, Nat.reduceEqDiff, Int.reduceNeg, qc, c1]
      · rw [i3, hvr, ← hR]
        obtain ⟨A, hA⟩ := Int.eq_ofNat_of_zero_le pa
        obtain ⟨B, hB⟩ := Int.eq_ofNat_of_zero_le (Int.le_of_lt pb)
        rw [hA, hB]
        show (((Int.gcd (B : Int) ((A % B : Nat) : Int)) : Nat) : Int) = _
        rw [Int.gcd_natCast_natCast, Int.gcd_natCast_natCast, Nat.gcd_comm, ← Nat.gcd_rec, Nat.gcd_comm]
theorem qjE (a0 b0 : Bool) (a1 b1 : List Int) {x y : Int} (nx : Nm U a0 a1 x) (ny : Nm U b0 b1 y) (hx : a1.length ≤ 800000) (hy : b1.length ≤ 800000) :
    ∃ l, Rn (fun k => qaZ k a0 a1 b0 b1) (false, l) ∧ Nm U false l (Int.gcd x y) ∧ l.length ≤ max a1.length b1.length := by
  obtain ⟨N, hN⟩ := Int.eq_ofNat_of_zero_le (qt (B := U) (by decide) ny.c.1)
  obtain ⟨l, b', ⟨K, h1⟩, h2, h3, h4⟩ := qtl false 0 [] (max a1.length b1.length) (by omega) N a1 b1 (by omega) nx.c ny.c (by omega) (by omega)
  have e : (Int.gcd (V U a1) (V U b1) : Int) = Int.gcd x y := by
    have e1 := nx.z
    have e2 := ny.z
    rw [← e1, ← e2]
    cases a0 <;> cases b0 <;> simp
  refine ⟨l, Rn.up (f := fun k => qaZ k a0 a1 b0 b1) ?_, qgG h2 (by rw [h3, e]), h4⟩
  have q1 : Rn (fun k => qaV k a0 a1) (false, a1) := Rn.up (f := fun k => qaV k a0 a1) (Rn.pure _)
  have q2 : Rn (fun k => qaV k b0 b1) (false, b1) := Rn.up (f := fun k => qaV k b0 b1) (Rn.pure _)
  refine Rn.bind (f := fun k => qaV k a0 a1) q1 (Rn.bind q2 ?_)
  exact Rn.bind (x := (false, l, false, b', false, 0, [])) (Rn.eq (K + N + 1) fun k hk => h1 k k (by omega) (by omega)) (Rn.pure _)
section
variable {a0 b0 : Bool} {a1 b1 : List Int} (la : a1.length ≤ 9223372036854775807) (lb : b1.length ≤ 9223372036854775807) (da : Dg W a1) (db : Dg W b1)
include la lb da db
end
end Go.Proofs.YtbhnafdmilfobaaGreat.Am

/- qp reckoning: right fractions, and the layer's calls of two of them. -/
set_option linter.unusedVariables false
set_option linter.unusedSectionVars false
set_option linter.unusedSimpArgs false
set_option maxRecDepth 10000
namespace Go.Proofs.YtbhnafdmilfobaaGreat.Am
open Go

def qcz (n0 : Bool) (n1 : List Int) (d0 : Bool) (d1 : List Int) : Int :=
  if Ri n0 n1 ∧ Ri d0 d1 then (if d0 = false ∧ d1 ≠ [] ∧ Int.gcd (Zv W n0 n1) (Zv W d0 d1) = 1 then 0 else 20) else 10
theorem qEf {d1 : List Int} {d0 : Bool} (h0 : d0 = false) (hne : d1 ≠ []) (cd : Cn W d1) : 0 < Zv W d0 d1 := by
  subst h0
  have p := qt (B := W) (by decide) cd.1
  have q := mt (cd.nil_iff (B := W) (by decide)).2 hne
  simp [Zv]; omega
theorem qvd {x y : Int} (hy : 0 < y) (hg : Int.gcd x y = 1) : (Rat.divInt x y).num = x ∧ ((Rat.divInt x y).den : Int) = y := by
  refine ⟨?_, ?_⟩
  · rw [qsP x (by omega), if_neg (by omega), hg]; simp
  · rw [qsQ x (by omega), if_neg (by omega), hg]; simp
theorem qmt {n0 d0 : Bool} {n1 d1 : List Int} (dn : Dg W n1) (dd : Dg W d1) (h : qcz n0 n1 d0 d1 = 0) : ∃ q, Fr n0 n1 d0 d1 q ∧ n1.length ≤ 72 ∧ d1.length ≤ 72 := by
  unfold qcz at h
  split at h
  · rename_i hr
    split at h
    · rename_i hc
      obtain ⟨h1, h2, h3⟩ := hc
      have a := hr.1.nm dn
      have b := hr.2.nm dd
      obtain ⟨e1, e2⟩ := qvd (qEf h1 h2 b.c) h3
      exact ⟨Rat.divInt (Zv W n0 n1) (Zv W d0 d1), ⟨a.cast e1.symm, b.cast e2.symm⟩, hr.1.1, hr.2.1⟩
    · cases h
  · cases h
theorem qx3 {n0 d0 : Bool} {n1 d1 : List Int} {q : Rat} (h : Fr n0 n1 d0 d1 q) (l1 : n1.length ≤ 72) (l3 : d1.length ≤ 72) : qcz n0 n1 d0 d1 = 0 := by
  unfold qcz
  rw [if_pos ⟨h.1.ri l1, h.2.ri l3⟩, if_pos]
  refine ⟨h.d0, h.ne, ?_⟩
  rw [show Zv W n0 n1 = q.num from h.1.z, show Zv W d0 d1 = q.den from h.2.z]
  have := q.reduced
  show Nat.gcd q.num.natAbs (q.den : Int).natAbs = 1
  rw [Int.natAbs_natCast]
  exact this
theorem qzU {l : List Int} {g : Nat} (h : Nm W false l g) : l = [1] ↔ g = 1 := by
  have hc : Cn W [1] := ⟨Dg.cons (by decide) Dg.nil, rfl⟩
  have hv := h.abs (by decide)
  constructor
  · rintro rfl
    simp [V] at hv
    omega
  · rintro rfl
    refine Cn.ext (B := W) (by decide) h.c hc ?_
    rw [hv]; simp [V]
section
variable {n0 d0 : Bool} {n1 d1 : List Int} (la : n1.length ≤ 9223372036854775807) (lb : d1.length ≤ 9223372036854775807) (da : Dg W n1) (db : Dg W d1)
include la lb da db
theorem qlF : Rn (fun k => qeE k n0 n1 d0 d1) (qcz n0 n1 d0 d1) := by
  refine Rn.up (f := fun k => qeE k n0 n1 d0 d1) ?_
  show Rn (fun k => qia k n0 n1 d0 d1) _
  unfold qia
  refine Rn.bind (qid n0 n1 la da) ?_
  by_cases hn : Ri n0 n1
  case neg =>
    have e : qcz n0 n1 d0 d1 = 10 := if_neg (fun c => hn c.1)
    rw [e, if_neg hn]
    (first | (refine Rn.t ?hc ?_; case hc => simp (config := { implicitDefEqProofs := false, maxSteps := 2000000 }) (disch := omega) only [ps, ↓reduceIte, reduceCtorEq, Int.reduceLT, Int.reduceLE, Int.reduceEq, Nat.reduceLT, Nat.reduceLeDiff, Nat.reduceEqDiff, Int.reduceNeg, qc]) | (refine Rn.f ?hc ?_; case hc => simp (config := { implicitDefEqProofs := false, maxSteps := 2000000 }) (disch := omega) only [ps, ↓reduceIte, reduceCtorEq, Int.reduceLT, Int.reduceLE, Int.reduceEq, Nat.reduceLT, Nat.reduceLeDiff, Nat.reduceEqDiff, Int.reduceNeg, qc]))
    exact Rn.pure _
  rw [if_pos hn]
  (first | (refine Rn.t ?hc ?_; case hc => simp (config := { implicitDefEqProofs := false, maxSteps := 2000000 }) (disch := omega) only [ps, ↓reduceIte, reduceCtorEq, Int.reduceLT, Int.reduceLE, Int.reduceEq, Nat.reduceLT, Nat.reduceLeDiff, Nat.reduceEqDiff, Int.reduceNeg, qc]) | (refine Rn.f ?hc ?_; case hc => simp (config := { implicitDefEqProofs := false, maxSteps := 2000000 }) (disch := omega) only [ps, ↓reduceIte, reduceCtorEq, Int.reduceLT, Int.reduceLE, Int.reduceEq, Nat.reduceLT, Nat.reduceLeDiff, Nat.reduceEqDiff, Int.reduceNeg, qc]))
  refine Rn.bind (qid d0 d1 lb db) ?_
  by_cases hd : Ri d0 d1
  case neg =>
    have e : qcz n0 n1 d0 d1 = 10 := if_neg (fun c => hd c.2)
    rw [e, if_neg hd]
    (first | (refine Rn.t ?hc ?_; case hc => simp (config := { implicitDefEqProofs := false, maxSteps := 2000000 }) (disch := omega) only [ps, ↓reduceIte, reduceCtorEq, Int.reduceLT, Int.reduceLE, Int.reduceEq, Nat.reduceLT, Nat.reduceLeDiff, Nat.reduceEqDiff, Int.reduceNeg, qc]) | (refine Rn.f ?hc ?_; case hc => simp (config := { implicitDefEqProofs := false, maxSteps := 2000000 }) (disch := omega) only [ps, ↓reduceIte, reduceCtorEq, Int.reduceLT, Int.reduceLE, Int.reduceEq, Nat.reduceLT, Nat.reduceLeDiff, Nat.reduceEqDiff, Int.reduceNeg, qc]))
    exact Rn.pure _
  rw [if_pos hd]
  (first | (refine Rn.t ?hc ?_; case hc => simp (config := { implicitDefEqProofs := false, maxSteps := 2000000 }) (disch := omega) only [ps, ↓reduceIte, reduceCtorEq, Int.reduceLT, Int.reduceLE, Int.reduceEq, Nat.reduceLT, Nat.reduceLeDiff, Nat.reduceEqDiff, Int.reduceNeg, qc]) | (refine Rn.f ?hc ?_; case hc => simp (config := { implicitDefEqProofs := false, maxSteps := 2000000 }) (disch := omega) only [ps, ↓reduceIte, reduceCtorEq, Int.reduceLT, Int.reduceLE, Int.reduceEq, Nat.reduceLT, Nat.reduceLeDiff, Nat.reduceEqDiff, Int.reduceNeg, qc]))
  have e0 : qcz n0 n1 d0 d1 = if d0 = false ∧ d1 ≠ [] ∧ Int.gcd (Zv W n0 n1) (Zv W d0 d1) = 1 then 0 else 20 := if_pos ⟨hn, hd⟩
  cases d0
  case true =>
    rw [e0.trans (if_neg (fun c => by cases c.1))]
    (first | (refine Rn.t ?hc ?_; case hc => simp (config := { implicitDefEqProofs := false, maxSteps := 2000000 }) (disch := omega) only [ps, ↓reduceIte, reduceCtorEq, Int.reduceLT, Int.reduceLE, Int.reduceEq, Nat.reduceLT, Nat.reduceLeDiff, Nat.reduceEqDiff, Int.reduceNeg, qc]) | (refine Rn.f ?hc ?_; case hc => simp (config := { implicitDefEqProofs := false, maxSteps := 2000000 }) (disch := omega) only [ps, ↓reduceIte, reduceCtorEq, Int.reduceLT, Int.reduceLE, Int.reduceEq, Nat.reduceLT, Nat.reduceLeDiff, Nat.reduceEqDiff, Int.reduceNeg, qc]))
    exact Rn.pure _
  (first | (refine Rn.t ?hc ?_; case hc => simp (config := { implicitDefEqProofs := false, maxSteps := 2000000 }) (disch := omega) only [ps, ↓reduceIte, reduceCtorEq, Int.reduceLT, Int.reduceLE, Int.reduceEq, Nat.reduceLT, Nat.reduceLeDiff, Nat.reduceEqDiff, Int.reduceNeg, qc]) | (refine Rn.f ?hc ?_; case hc => simp (config := { implicitDefEqProofs := false, maxSteps := 2000000 }) (disch := omega) only [ps, ↓reduceIte, reduceCtorEq, Int.reduceLT, Int.reduceLE, Int.reduceEq, Nat.reduceLT, Nat.reduceLeDiff, Nat.reduceEqDiff, Int.reduceNeg, qc]))
  by_cases h0 : d1 = []
  · rw [e0.trans (if_neg (fun c => c.2.1 h0))]
    subst h0
    (first | (refine Rn.t ?hc ?_; case hc => simp (config := { implicitDefEqProofs := false, maxSteps := 2000000 }) (disch := omega) only [ps, ↓reduceIte, reduceCtorEq, Int.reduceLT, Int.reduceLE, Int.reduceEq, Nat.reduceLT, Nat.reduceLeDiff, Nat.reduceEqDiff, Int.reduceNeg, qc]) | (refine Rn.f ?hc ?_; case hc => simp (config := { implicitDefEqProofs := false, maxSteps := 2000000 }) (disch := omega) only [ps, ↓reduceIte, reduceCtorEq, Int.reduceLT, Int.reduceLE, Int.reduceEq, Nat.reduceLT, Nat.reduceLeDiff, Nat.reduceEqDiff, Int.reduceNeg, qc]))
    exact Rn.pure _
  · have l0 : 0 < d1.length := by
      cases d1 with
      | nil => exact absurd rfl h0
      | cons _ _ => simp
    (first | (refine Rn.t ?hc ?_; case hc => simp (config := { implicitDefEqProofs := false, maxSteps := 2000000 }) (disch := omega) only [ps, ↓reduceIte, reduceCtorEq, Int.reduceLT, Int.reduceLE, Int.reduceEq, Nat.reduceLT, Nat.reduceLeDiff, Nat.reduceEqDiff, Int.reduceNeg, qc]) | (refine Rn.f ?hc ?_; case hc => simp (config := { implicitDefEqProofs := false, maxSteps := 2000000 }) (disch := omega) only [ps, ↓reduceIte, reduceCtorEq, Int.reduceLT, Int.reduceLE, Int.reduceEq, Nat.reduceLT, Nat.reduceLeDiff, Nat.reduceEqDiff, Int.reduceNeg, qc]))
    obtain ⟨l, g1, g2, g3⟩ := qu9 la lb da db hn hd
    refine Rn.bind g1 ?_
    have ho := qzU g2
    by_cases hg : Int.gcd (Zv W n0 n1) (Zv W false d1) = 1
    · rw [e0.trans (if_pos ⟨rfl, h0, hg⟩)]
      have hl := ho.2 hg
      subst hl
      (first | (refine Rn.t ?hc ?_; case hc => simp (config := { implicitDefEqProofs := false, maxSteps := 2000000 }) (disch := omega) only [ps, ↓reduceIte, reduceCtorEq, Int.reduceLT, Int.reduceLE, Int.reduceEq, Nat.reduceLT, Nat.reduceLeDiff, Nat.reduceEqDiff, Int.reduceNeg, qc, List.length_cons]) | (refine Rn.f ?hc ?_; case hc => simp (config := { implicitDefEqProofs := false, maxSteps := 2000000 }) (disch := omega) only [ps, ↓reduceIte, reduceCtorEq, Int.reduceLT, Int.reduceLE, Int.reduceEq, Nat.reduceLT, Nat.reduceLeDiff, Nat.reduceEqDiff, Int.reduceNeg, qc, List.length_cons]))
      refine Rn.at (x := 1) rfl ?_
      (first | (refine Rn.t ?hc ?_; case hc => simp (config := { implicitDefEqProofs := false, maxSteps := 2000000 }) (disch := omega) only [ps, ↓reduceIte, reduceCtorEq, Int.reduceLT, Int.reduceLE, Int.reduceEq, Nat.reduceLT, Nat.reduceLeDiff, Nat.reduceEqDiff, Int.reduceNeg, qc]) | (refine Rn.f ?hc ?_; case hc => simp (config := { implicitDefEqProofs := false, maxSteps := 2000000 }) (disch := omega) only [ps, ↓reduceIte, reduceCtorEq, Int.reduceLT, Int.reduceLE, Int.reduceEq, Nat.reduceLT, Nat.reduceLeDiff, Nat.reduceEqDiff, Int.reduceNeg, qc]))
      exact Rn.pure _
    · rw [e0.trans (if_neg (fun c => hg c.2.2))]
      by_cases hlen : l.length = 1
      · obtain ⟨x, rfl⟩ : ∃ x, l = [x] := by
          match l, hlen with
          | [x], _ => exact ⟨x, rfl⟩
        (first | (refine Rn.t ?hc ?_; case hc => simp (config := { implicitDefEqProofs := false, maxSteps := 2000000 }) (disch := omega) only [ps, ↓reduceIte, reduceCtorEq, Int.reduceLT, Int.reduceLE, Int.reduceEq, Nat.reduceLT, Nat.reduceLeDiff, Nat.reduceEqDiff, Int.reduceNeg, qc, List.length_cons]) | (refine Rn.f ?hc ?_; case hc => simp (config := { implicitDefEqProofs := false, maxSteps := 2000000 }) (disch := omega) only [ps, ↓reduceIte, reduceCtorEq, Int.reduceLT, Int.reduceLE, Int.reduceEq, Nat.reduceLT, Nat.reduceLeDiff, Nat.reduceEqDiff, Int.reduceNeg, qc, List.length_cons]))
        refine Rn.at (x := x) rfl ?_
        have hx : x ≠ 1 := fun h => hg (ho.1 (by rw [h]))
        (first | (refine Rn.t ?hc ?_; case hc => simp (config := { implicitDefEqProofs := false, maxSteps := 2000000 }) (disch := omega) only [ps, ↓reduceIte, reduceCtorEq, Int.reduceLT, Int.reduceLE, Int.reduceEq, Nat.reduceLT, Nat.reduceLeDiff, Nat.reduceEqDiff, Int.reduceNeg, qc]) | (refine Rn.f ?hc ?_; case hc => simp (config := { implicitDefEqProofs := false, maxSteps := 2000000 }) (disch := omega) only [ps, ↓reduceIte, reduceCtorEq, Int.reduceLT, Int.reduceLE, Int.reduceEq, Nat.reduceLT, Nat.reduceLeDiff, Nat.reduceEqDiff, Int.reduceNeg, qc]))
        exact Rn.pure _
      · (first | (refine Rn.t ?hc ?_; case hc => simp (config := { implicitDefEqProofs := false, maxSteps := 2000000 }) (disch := omega) only [ps, ↓reduceIte, reduceCtorEq, Int.reduceLT, Int.reduceLE, Int.reduceEq, Nat.reduceLT, Nat.reduceLeDiff, Nat.reduceEqDiff, Int.reduceNeg, qc]) | (refine Rn.f ?hc ?_; case hc => simp (config := { implicitDefEqProofs := false, maxSteps := 2000000 }) (disch := omega) only [ps, ↓reduceIte, reduceCtorEq, Int.reduceLT, Int.reduceLE, Int.reduceEq, Nat.reduceLT, Nat.reduceLeDiff, Nat.reduceEqDiff, Int.reduceNeg, qc]))
        exact Rn.pure _
theorem qfU : Rn (fun k => qbS k n0 n1 d0 d1) (qcz n0 n1 d0 d1) := by
  refine Rn.up (f := fun k => qbS k n0 n1 d0 d1) ?_
  show Rn (fun k => qeP k n0 n1 d0 d1) _
  unfold qeP
  refine Rn.bind (qsS n0 n1 la da) ?_
  by_cases hn : Ri n0 n1
  case neg =>
    have e : qcz n0 n1 d0 d1 = 10 := if_neg (fun c => hn c.1)
    rw [e]
    (first | (refine Rn.t ?hc ?_; case hc => simp (config := { implicitDefEqProofs := false, maxSteps := 2000000 }) (disch := omega) only [ps, ↓reduceIte, reduceCtorEq, Int.reduceLT, Int.reduceLE, Int.reduceEq, Nat.reduceLT, Nat.reduceLeDiff, Nat.reduceEqDiff, Int.reduceNeg, qc, hn, decide_false]) | (refine Rn.f ?hc ?_; case hc => simp (config := { implicitDefEqProofs := false, maxSteps := 2000000 }) (disch := omega) only [ps, ↓reduceIte, reduceCtorEq, Int.reduceLT, Int.reduceLE, Int.reduceEq, Nat.reduceLT, Nat.reduceLeDiff, Nat.reduceEqDiff, Int.reduceNeg, qc, hn, decide_false]))
    exact Rn.pure _
  (first | (refine Rn.t ?hc ?_; case hc => simp (config := { implicitDefEqProofs := false, maxSteps := 2000000 }) (disch := omega) only [ps, ↓reduceIte, reduceCtorEq, Int.reduceLT, Int.reduceLE, Int.reduceEq, Nat.reduceLT, Nat.reduceLeDiff, Nat.reduceEqDiff, Int.reduceNeg, qc, hn, decide_true]) | (refine Rn.f ?hc ?_; case hc => simp (config := { implicitDefEqProofs := false, maxSteps := 2000000 }) (disch := omega) only [ps, ↓reduceIte, reduceCtorEq, Int.reduceLT, Int.reduceLE, Int.reduceEq, Nat.reduceLT, Nat.reduceLeDiff, Nat.reduceEqDiff, Int.reduceNeg, qc, hn, decide_true]))
  refine Rn.bind (qsS d0 d1 lb db) ?_
  by_cases hd : Ri d0 d1
  case neg =>
    have e : qcz n0 n1 d0 d1 = 10 := if_neg (fun c => hd c.2)
    rw [e]
    (first | (refine Rn.t ?hc ?_; case hc => simp (config := { implicitDefEqProofs := false, maxSteps := 2000000 }) (disch := omega) only [ps, ↓reduceIte, reduceCtorEq, Int.reduceLT, Int.reduceLE, Int.reduceEq, Nat.reduceLT, Nat.reduceLeDiff, Nat.reduceEqDiff, Int.reduceNeg, qc, hd, decide_false]) | (refine Rn.f ?hc ?_; case hc => simp (config := { implicitDefEqProofs := false, maxSteps := 2000000 }) (disch := omega) only [ps, ↓reduceIte, reduceCtorEq, Int.reduceLT, Int.reduceLE, Int.reduceEq, Nat.reduceLT, Nat.reduceLeDiff, Nat.reduceEqDiff, Int.reduceNeg, qc, hd, decide_false]))
    exact Rn.pure _
  (first | (refine Rn.t ?hc ?_; case hc => simp (config := { implicitDefEqProofs := false, maxSteps := 2000000 }) (disch := omega) only [ps, ↓reduceIte, reduceCtorEq, Int.reduceLT, Int.reduceLE, Int.reduceEq, Nat.reduceLT, Nat.reduceLeDiff, Nat.reduceEqDiff, Int.reduceNeg, qc, hd, decide_true]) | (refine Rn.f ?hc ?_; case hc => simp (config := { implicitDefEqProofs := false, maxSteps := 2000000 }) (disch := omega) only [ps, ↓reduceIte, reduceCtorEq, Int.reduceLT, Int.reduceLE, Int.reduceEq, Nat.reduceLT, Nat.reduceLeDiff, Nat.reduceEqDiff, Int.reduceNeg, qc, hd, decide_true]))
  have e0 : qcz n0 n1 d0 d1 = if d0 = false ∧ d1 ≠ [] ∧ Int.gcd (Zv W n0 n1) (Zv W d0 d1) = 1 then 0 else 20 := if_pos ⟨hn, hd⟩
  cases d0
  case true =>
    rw [e0.trans (if_neg (fun c => by cases c.1))]
    (first | (refine Rn.t ?hc ?_; case hc => simp (config := { implicitDefEqProofs := false, maxSteps := 2000000 }) (disch := omega) only [ps, ↓reduceIte, reduceCtorEq, Int.reduceLT, Int.reduceLE, Int.reduceEq, Nat.reduceLT, Nat.reduceLeDiff, Nat.reduceEqDiff, Int.reduceNeg, qc]) | (refine Rn.f ?hc ?_; case hc => simp (config := { implicitDefEqProofs := false, maxSteps := 2000000 }) (disch := omega) only [ps, ↓reduceIte, reduceCtorEq, Int.reduceLT, Int.reduceLE, Int.reduceEq, Nat.reduceLT, Nat.reduceLeDiff, Nat.reduceEqDiff, Int.reduceNeg, qc]))
    exact Rn.pure _
  (first | (refine Rn.t ?hc ?_; case hc => simp (config := { implicitDefEqProofs := false, maxSteps := 2000000 }) (disch := omega) only [ps, ↓reduceIte, reduceCtorEq, Int.reduceLT, Int.reduceLE, Int.reduceEq, Nat.reduceLT, Nat.reduceLeDiff, Nat.reduceEqDiff, Int.reduceNeg, qc]) | (refine Rn.f ?hc ?_; case hc => simp (config := { implicitDefEqProofs := false, maxSteps := 2000000 }) (disch := omega) only [ps, ↓reduceIte, reduceCtorEq, Int.reduceLT, Int.reduceLE, Int.reduceEq, Nat.reduceLT, Nat.reduceLeDiff, Nat.reduceEqDiff, Int.reduceNeg, qc]))
  by_cases h0 : d1 = []
  · rw [e0.trans (if_neg (fun c => c.2.1 h0))]
    subst h0
    (first | (refine Rn.t ?hc ?_; case hc => simp (config := { implicitDefEqProofs := false, maxSteps := 2000000 }) (disch := omega) only [ps, ↓reduceIte, reduceCtorEq, Int.reduceLT, Int.reduceLE, Int.reduceEq, Nat.reduceLT, Nat.reduceLeDiff, Nat.reduceEqDiff, Int.reduceNeg, qc]) | (refine Rn.f ?hc ?_; case hc => simp (config := { implicitDefEqProofs := false, maxSteps := 2000000 }) (disch := omega) only [ps, ↓reduceIte, reduceCtorEq, Int.reduceLT, Int.reduceLE, Int.reduceEq, Nat.reduceLT, Nat.reduceLeDiff, Nat.reduceEqDiff, Int.reduceNeg, qc]))
    exact Rn.pure _
  · have l0 : 0 < d1.length := by
      cases d1 with
      | nil => exact absurd rfl h0
      | cons _ _ => simp
    have k1 := hn.1
    have k2 := hd.1
    (first | (refine Rn.t ?hc ?_; case hc => simp (config := { implicitDefEqProofs := false, maxSteps := 2000000 }) (disch := omega) only [ps, ↓reduceIte, reduceCtorEq, Int.reduceLT, Int.reduceLE, Int.reduceEq, Nat.reduceLT, Nat.reduceLeDiff, Nat.reduceEqDiff, Int.reduceNeg, qc]) | (refine Rn.f ?hc ?_; case hc => simp (config := { implicitDefEqProofs := false, maxSteps := 2000000 }) (disch := omega) only [ps, ↓reduceIte, reduceCtorEq, Int.reduceLT, Int.reduceLE, Int.reduceEq, Nat.reduceLT, Nat.reduceLeDiff, Nat.reduceEqDiff, Int.reduceNeg, qc]))
    obtain ⟨l1, p1, p2, p3⟩ := qij n0 n1 (by omega) (hn.nm da)
    obtain ⟨l2, q1, q2, q3⟩ := qij false d1 (by omega) (hd.nm db)
    obtain ⟨l, r1, r2, r3⟩ := qjE n0 false l1 l2 p2 q2 (by omega) (by omega)
    obtain ⟨o, s1, s2, s3⟩ := qfk 1 (by decide)
    have hh := qtJ false (decide ((1 : Int) < 0)) l o r2 s2 (by omega) (by omega)
    refine Rn.bind p1 (Rn.bind q1 (Rn.bind r1 (Rn.bind s1 (Rn.bind hh ?_))))
    obtain ⟨c, hc, hcc⟩ := qdX ((Int.gcd (Zv W n0 n1) (Zv W false d1) : Nat) : Int) 1
    rw [hc]
    by_cases hg : Int.gcd (Zv W n0 n1) (Zv W false d1) = 1
    · rw [e0.trans (if_pos ⟨rfl, h0, hg⟩)]
      (first | (refine Rn.t ?hc ?_; case hc => simp (config := { implicitDefEqProofs := false, maxSteps := 2000000 }) (disch := omega) only [ps, ↓reduceIte, reduceCtorEq, Int.reduceLT, Int.reduceLE, Int.reduceEq, Nat.reduceLT, Nat.reduceLeDiff, Nat.reduceEqDiff, Int.reduceNeg, qc]) | (refine Rn.f ?hc ?_; case hc => simp (config := { implicitDefEqProofs := false, maxSteps := 2000000 }) (disch := omega) only [ps, ↓reduceIte, reduceCtorEq, Int.reduceLT, Int.reduceLE, Int.reduceEq, Nat.reduceLT, Nat.reduceLeDiff, Nat.reduceEqDiff, Int.reduceNeg, qc]))
      exact Rn.pure _
    · rw [e0.trans (if_neg (fun c => hg c.2.2))]
      (first | (refine Rn.t ?hc ?_; case hc => simp (config := { implicitDefEqProofs := false, maxSteps := 2000000 }) (disch := omega) only [ps, ↓reduceIte, reduceCtorEq, Int.reduceLT, Int.reduceLE, Int.reduceEq, Nat.reduceLT, Nat.reduceLeDiff, Nat.reduceEqDiff, Int.reduceNeg, qc]) | (refine Rn.f ?hc ?_; case hc => simp (config := { implicitDefEqProofs := false, maxSteps := 2000000 }) (disch := omega) only [ps, ↓reduceIte, reduceCtorEq, Int.reduceLT, Int.reduceLE, Int.reduceEq, Nat.reduceLT, Nat.reduceLeDiff, Nat.reduceEqDiff, Int.reduceNeg, qc]))
      exact Rn.pure _
end
abbrev RT := (Bool × List Int) × Bool × List Int
def RT.f (r : RT) : Int := qcz r.1.1 r.1.2 r.2.1 r.2.2
def RT.good (r : RT) : Prop := (r.1.2.length ≤ 9223372036854775807 ∧ Dg W r.1.2) ∧ r.2.2.length ≤ 9223372036854775807 ∧ Dg W r.2.2
theorem qzV {z0 z2 : Bool} {z1 z3 : List Int} {q : Rat} (h : Fr z0 z1 z2 z3 q) (h1 : z1.length ≤ 1000000) (h3 : z3.length ≤ 1000000) : Rn (fun k => qdK k z0 z1 z2 z3) (z0, z1, z2, z3) := by
  have hd := Rat.den_pos' q
  obtain ⟨s, p, t, r, e1, e2, e3, e4⟩ := qhE z0 z2 z1 z3 h.1 h.2 h1 h3 (by omega)
  rw [Rat.num_divInt_den] at e2
  obtain ⟨rfl, rfl, rfl, rfl⟩ := e2.ext h
  have t1 := qlr h.1 (show p.length ≤ 1000000000 by omega)
  have t3 := qlr h.2 (show r.length ≤ 1000000000 by omega)
  exact Rn.up (f := fun k => qdK k s p t r) (Rn.bind t1 (Rn.bind t3 (Rn.bind e1 (Rn.pure _))))
section
variable {x0 x2 y0 y2 : Bool} {x1 x3 y1 y3 : List Int} {x y : Rat} (hx : Fr x0 x1 x2 x3 x) (hy : Fr y0 y1 y2 y3 y) (l1 : x1.length ≤ 72) (l3 : x3.length ≤ 72) (m1 : y1.length ≤ 72) (m3 : y3.length ≤ 72)
include hx hy l1 l3 m1 m3
end
end Go.Proofs.YtbhnafdmilfobaaGreat.Am

/- qp reckoning: fractions made, held against one another, and of small numbers. -/
set_option linter.unusedVariables false
set_option linter.unusedSectionVars false
set_option linter.unusedSimpArgs false
set_option maxRecDepth 10000
namespace Go.Proofs.YtbhnafdmilfobaaGreat.Am
open Go

theorem qzW {x : RT} (w : Wfd (.pr (.pr .bool (.sl (.int .u32))) (.pr .bool (.sl (.int .u32)))) x) : x.good := by
  obtain ⟨d1, l1⟩ := qzi w.1.2
  obtain ⟨d3, l3⟩ := qzi w.2.2
  exact ⟨⟨l1, d1⟩, l3, d3⟩
end Go.Proofs.YtbhnafdmilfobaaGreat.Am

/- qp reckoning: a number's text. -/
set_option linter.unusedVariables false
set_option linter.unusedSimpArgs false
set_option maxRecDepth 10000
namespace Go.Proofs.YtbhnafdmilfobaaGreat.Am
open Go

structure Tx (z : Int) (s : ByteArray) : Prop where
  nz : z = 0 → s = bytesOf [48]
  ex : z ≠ 0 → ∃ l, Cn 10 l ∧ V 10 l = z.natAbs ∧ s = bytesOf ((if z < 0 then [45] else []) ++ (sg l).reverse)
theorem Tx.ext {z : Int} {s t : ByteArray} (h1 : Tx z s) (h2 : Tx z t) : s = t := by
  by_cases h : z = 0
  · rw [h1.nz h, h2.nz h]
  · obtain ⟨l, a1, a2, a3⟩ := h1.ex h
    obtain ⟨m, b1, b2, b3⟩ := h2.ex h
    rw [a3, b3, Cn.ext (by decide) a1 b1 (by rw [a2, b2])]
end Go.Proofs.YtbhnafdmilfobaaGreat.Am

/- qp reckoning: the reference's text of a number; machine numbers, both ways. -/
set_option linter.unusedVariables false
set_option linter.unusedSimpArgs false
set_option maxRecDepth 10000
namespace Go.Proofs.YtbhnafdmilfobaaGreat.Am
open Go

theorem qpR (k : Nat) (x0 a0 : Bool) : ∀ (d n : Nat) (u : Int) (l : List Int), 0 ≤ u ∧ u < U ^ d → u < 18446744073709551616 → d < n → l.length ≤ 1000 - d → d ≤ 100 → Dg U l → (u = 0 → Cn U l) →
    ∃ l', qac k n u x0 0 a0 l.length [] l = some (x0, 0, a0, l'.length, [], l') ∧ Cn U l' ∧ V U l' = V U l + U ^ l.length * u ∧ l'.length ≤ l.length + d := by
  intro d
  induction d with
  | zero =>
    intro n u l hu hub hn hl hd9 hd hc
    obtain ⟨n, rfl⟩ : ∃ m, n = m + 1 := ⟨n - 1, by omega⟩
    have hu0 : u = 0 := by simp at hu; omega
    subst hu0
    refine ⟨l, ?_, hc rfl, by simp, by omega⟩
    show qbg k (qac k n) _ _ _ _ _ _ _ = _
    unfold qbg
    simp (config := { implicitDefEqProofs := false, maxSteps := 2000000 }) (disch := omega) only [ps, ↓reduceIte, reduceCtorEq, Int.reduceLT, Int.reduceLE, Int.reduceEq, Nat.reduceLT, Nat.reduceLeDiff, Nat.reduceEqDiff, Int.reduceNeg, qc]
  | succ d ih =>
    intro n u l hu hub hn hl hd9 hd hc
    obtain ⟨n, rfl⟩ : ∃ m, n = m + 1 := ⟨n - 1, by omega⟩
    by_cases hu0 : u = 0
    · subst hu0
      refine ⟨l, ?_, hc rfl, by simp, by omega⟩
      show qbg k (qac k n) _ _ _ _ _ _ _ = _
      unfold qbg
      simp (config := { implicitDefEqProofs := false, maxSteps := 2000000 }) (disch := omega) only [ps, ↓reduceIte, reduceCtorEq, Int.reduceLT, Int.reduceLE, Int.reduceEq, Nat.reduceLT, Nat.reduceLeDiff, Nat.reduceEqDiff, Int.reduceNeg, qc]
    · have hu2 : u / 65536 < U ^ d := by
        have := hu.2
        rw [Int.pow_succ] at this
        unfold U at this ⊢
        omega
      have hdm := Int.emod_add_mul_ediv u 65536
      have hlen : (l ++ [u % 65536]).length = l.length + 1 := by simp
      have hdl : Dg U (l ++ [u % 65536]) := hd.snoc (by unfold U; omega)
      obtain ⟨l', q1, q2, q3, q4⟩ := ih n (u / 65536) (l ++ [u % 65536]) ⟨by omega, hu2⟩ (by omega) (by omega) (by rw [hlen]; omega) (by omega) hdl (fun h => ⟨hdl, (Cn.last hdl).2 (.inr ⟨l, u % 65536, rfl, by omega⟩)⟩)
      refine ⟨l', ?_, q2, ?_, by rw [hlen] at q4; omega⟩
      · rw [hlen] at q1
        rw [← q1]
        show qbg k (qac k n) _ _ _ _ _ _ _ = _
        unfold qbg
        have ht : l.take l.length = l := List.take_length
        simp (config := { implicitDefEqProofs := false, maxSteps := 2000000 }) (disch := omega) only [ps, ↓reduceIte, reduceCtorEq, Int.reduceLT, Int.reduceLE, Int.reduceEq, Nat.reduceLT, Nat.reduceLeDiff, Nat.reduceEqDiff, Int.reduceNeg, qc, qcM, qcN, ht, List.take_succ_cons, List.length_cons]
      · rw [q3, qdv, hlen, Int.pow_succ]
        unfold U
        grind
theorem qsU (v : Int) (hv : -9223372036854775808 ≤ v ∧ v ≤ 9223372036854775807) : ∃ l, Rn (fun k => qbB k v) (decide (v < 0), l) ∧ Nm U (decide (v < 0)) l v ∧ l.length ≤ 4 := by
  have main : ∀ (x0 : Bool) (u : Int), 0 ≤ u ∧ u < 18446744073709551616 → ∃ l, Cn U l ∧ V U l = u ∧ l.length ≤ 4 ∧ ∀ k, 5 ≤ k → qac k k u false 0 x0 0 [] [] = some (false, 0, x0, l.length, [], l) := by
    intro x0 u hu
    have h4 : u < U ^ 4 := by unfold U; simpa using hu.2
    obtain ⟨l, q1, q2, q3, q4⟩ := qpR 5 false x0 4 5 u [] ⟨hu.1, h4⟩ hu.2 (by omega) (by simp) (by omega) Dg.nil (fun _ => Cn.nil)
    refine ⟨l, q2, by rw [q3]; simp [V], by simpa using q4, fun k hk => ?_⟩
    obtain ⟨l', r1, r2, r3, r4⟩ := qpR k false x0 4 k u [] ⟨hu.1, h4⟩ hu.2 (by omega) (by simp) (by omega) Dg.nil (fun _ => Cn.nil)
    have : l' = l := Cn.ext (by decide) r2 q2 (by rw [r3, q3])
    subst this
    exact r1
  by_cases h : v < 0
  · obtain ⟨l, h1, h2, h3, h4⟩ := main true (-v) (by omega)
    refine ⟨l, ?_, Nm.of (by decide) h1 (by omega), h3⟩
    refine Rn.up (f := fun k => qbB k v) (Rn.eq 5 fun k hk => ?_)
    show qdx k v = _
    unfold qdx
    have e1 : IntKind.u64.wrap (0 - IntKind.u64.wrap v) = -v := by rw [qej, qej]; omega
    have hh := h4 k hk
    rw [if_pos (by simpa using h), e1]
    simp (config := { implicitDefEqProofs := false, maxSteps := 2000000 }) (disch := omega) only [ps, ↓reduceIte, reduceCtorEq, Int.reduceLT, Int.reduceLE, Int.reduceEq, Nat.reduceLT, Nat.reduceLeDiff, Nat.reduceEqDiff, Int.reduceNeg, qc, hh, List.take_length, h, decide_true, decide_false]
  · obtain ⟨l, h1, h2, h3, h4⟩ := main false v (by omega)
    refine ⟨l, ?_, Nm.of (by decide) h1 (by omega), h3⟩
    refine Rn.up (f := fun k => qbB k v) (Rn.eq 5 fun k hk => ?_)
    show qdx k v = _
    unfold qdx
    have hh := h4 k hk
    have e1 : IntKind.u64.wrap v = v := qbF (by omega)
    rw [if_neg (by simpa using h), e1]
    simp (config := { implicitDefEqProofs := false, maxSteps := 2000000 }) (disch := omega) only [ps, ↓reduceIte, reduceCtorEq, Int.reduceLT, Int.reduceLE, Int.reduceEq, Nat.reduceLT, Nat.reduceLeDiff, Nat.reduceEqDiff, Int.reduceNeg, qc, hh, List.take_length, h, decide_true, decide_false]
end Go.Proofs.YtbhnafdmilfobaaGreat.Am

/- qp reckoning: the least common multiple of denominators. -/
set_option linter.unusedVariables false
set_option linter.unusedSectionVars false
set_option linter.unusedSimpArgs false
set_option maxRecDepth 10000
namespace Go.Proofs.YtbhnafdmilfobaaGreat.Am
open Go

def RT.d (r : RT) : Nat := (Zv W r.2.1 r.2.2).toNat
theorem RT.pos {r : RT} (hg : r.good) (h : r.f = 0) : 0 < r.d ∧ r.2.2.length ≤ 72 ∧ Nm W r.2.1 r.2.2 (r.d : Int) := by
  obtain ⟨q, h1, h2, h3⟩ := qmt hg.1.2 hg.2.2 h
  have e : Zv W r.2.1 r.2.2 = q.den := h1.2.z
  have p := Rat.den_pos' q
  have ed : r.d = q.den := by unfold RT.d; rw [e]; rfl
  rw [ed]
  exact ⟨by omega, h3, h1.2⟩
end Go.Proofs.YtbhnafdmilfobaaGreat.Am

/- qp reckoning: the reference's fractions. -/
set_option linter.unusedVariables false
set_option linter.unusedSectionVars false
set_option linter.unusedSimpArgs false
set_option maxRecDepth 10000
namespace Go.Proofs.YtbhnafdmilfobaaGreat.Am
open Go

def FrU (n0 : Bool) (n1 : List Int) (d0 : Bool) (d1 : List Int) (q : Rat) : Prop := Nm U n0 n1 q.num ∧ Nm U d0 d1 (q.den : Int)
theorem FrU.cast {n0 : Bool} {n1 : List Int} {d0 : Bool} {d1 : List Int} {q q' : Rat} (h : FrU n0 n1 d0 d1 q) (e : q = q') : FrU n0 n1 d0 d1 q' := e ▸ h
theorem qwf {a0 : Bool} {a1 : List Int} {x : Int} (h : Nm U a0 a1 x) (h0 : x ≠ 0) : a1 ≠ [] := by
  intro e
  rw [e] at h
  have := h.z
  cases a0 <;> simp [V] at this <;> omega
theorem qik (n0 d0 : Bool) (n1 d1 : List Int) {x y : Int} (nx : Nm U n0 n1 x) (ny : Nm U d0 d1 y) (hx : n1.length ≤ 100000) (hy : d1.length ≤ 100000) (hy0 : y ≠ 0) :
    ∃ s p t r, Rn (fun k => qaN k n0 n1 d0 d1) (s, p, t, r) ∧ FrU s p t r (Rat.divInt x y) ∧ p.length ≤ n1.length ∧ r.length ≤ d1.length := by
  have ex := qsP x hy0
  have ey := qsQ x hy0
  have hgp : (Int.gcd x y : Int) ≠ 0 := by
    have := Int.gcd_pos_of_ne_zero_right x hy0
    omega
  have hs := qtI d0 d1 ny
  obtain ⟨c, hc, hcc⟩ := qdX y 0
  rw [hc] at hs
  by_cases hneg : y < 0
  · rw [if_pos hneg, Int.tdiv_neg, ← Int.neg_tdiv] at ex ey
    obtain ⟨s1, l1, a1, a2, a3⟩ := qii n0 n1 nx
    obtain ⟨s2, l2, b1, b2, b3⟩ := qii d0 d1 ny
    obtain ⟨g, g1, g2, g3⟩ := qjE s1 s2 l1 l2 a2 b2 (by omega) (by omega)
    have eg : (Int.gcd (-x) (-y) : Int) = Int.gcd x y := by rw [Int.gcd_neg, Int.neg_gcd]
    rw [eg] at g2
    have hgn := qwf g2 hgp
    obtain ⟨s3, q3, t3, r3, c1, c2, c3, c4, c5⟩ := qf4 s1 false l1 g a2 g2 (by omega) (by omega) hgn
    obtain ⟨s4, q4, t4, r4, d1', d2, d3, d4, d5⟩ := qf4 s2 false l2 g b2 g2 (by omega) (by omega) hgn
    rw [← ex] at c2
    rw [← ey] at d2
    refine ⟨s3, q3, s4, q4, Rn.up (f := fun k => qaN k n0 n1 d0 d1) ?_, ⟨c2, d2⟩, by omega, by omega⟩
    show Rn (fun k => qdf k n0 n1 d0 d1) _
    unfold qdf
    refine Rn.bind hs ?_
    (first | (refine Rn.t ?hc ?_; case hc => simp (config := { implicitDefEqProofs := false, maxSteps := 2000000 }) (disch := omega) only [ps, ↓reduceIte, reduceCtorEq, Int.reduceLT, Int.reduceLE, Int.reduceEq, Nat.reduceLT, Nat.reduceLeDiff, Nat.reduceEqDiff, Int.reduceNeg, qc]) | (refine Rn.f ?hc ?_; case hc => simp (config := { implicitDefEqProofs := false, maxSteps := 2000000 }) (disch := omega) only [ps, ↓reduceIte, reduceCtorEq, Int.reduceLT, Int.reduceLE, Int.reduceEq, Nat.reduceLT, Nat.reduceLeDiff, Nat.reduceEqDiff, Int.reduceNeg, qc]))
    exact Rn.bind a1 (Rn.bind b1 (Rn.bind g1 (Rn.bind c1 (Rn.bind d1' (Rn.pure _)))))
  · rw [if_neg hneg] at ex ey
    obtain ⟨g, g1, g2, g3⟩ := qjE n0 d0 n1 d1 nx ny (by omega) (by omega)
    have hgn := qwf g2 hgp
    obtain ⟨s3, q3, t3, r3, c1, c2, c3, c4, c5⟩ := qf4 n0 false n1 g nx g2 (by omega) (by omega) hgn
    obtain ⟨s4, q4, t4, r4, d1', d2, d3, d4, d5⟩ := qf4 d0 false d1 g ny g2 (by omega) (by omega) hgn
    rw [← ex] at c2
    rw [← ey] at d2
    refine ⟨s3, q3, s4, q4, Rn.up (f := fun k => qaN k n0 n1 d0 d1) ?_, ⟨c2, d2⟩, by omega, by omega⟩
    show Rn (fun k => qdf k n0 n1 d0 d1) _
    unfold qdf
    refine Rn.bind hs ?_
    (first | (refine Rn.t ?hc ?_; case hc => simp (config := { implicitDefEqProofs := false, maxSteps := 2000000 }) (disch := omega) only [ps, ↓reduceIte, reduceCtorEq, Int.reduceLT, Int.reduceLE, Int.reduceEq, Nat.reduceLT, Nat.reduceLeDiff, Nat.reduceEqDiff, Int.reduceNeg, qc]) | (refine Rn.f ?hc ?_; case hc => simp (config := { implicitDefEqProofs := false, maxSteps := 2000000 }) (disch := omega) only [ps, ↓reduceIte, reduceCtorEq, Int.reduceLT, Int.reduceLE, Int.reduceEq, Nat.reduceLT, Nat.reduceLeDiff, Nat.reduceEqDiff, Int.reduceNeg, qc]))
    exact Rn.bind g1 (Rn.bind c1 (Rn.bind d1' (Rn.pure _)))
theorem qsV {n0 d0 : Bool} {n1 d1 : List Int} {q : Rat} (h : Fr n0 n1 d0 d1 q) (h1 : n1.length ≤ 100000) (h3 : d1.length ≤ 100000) :
    ∃ p r, Rn (fun k => qbC k n0 n1 d0 d1) (n0, p, d0, r) ∧ FrU n0 p d0 r q ∧ p.length ≤ 2 * n1.length ∧ r.length ≤ 2 * d1.length := by
  obtain ⟨p, p1, p2, p3⟩ := qij n0 n1 (by omega) h.1
  obtain ⟨r, r1, r2, r3⟩ := qij d0 d1 (by omega) h.2
  exact ⟨p, r, Rn.up (f := fun k => qbC k n0 n1 d0 d1) (Rn.bind p1 (Rn.bind r1 (Rn.pure _))), ⟨p2, r2⟩, p3, r3⟩
section
variable {n0 d0 : Bool} {n1 d1 : List Int} (la : n1.length ≤ 9223372036854775807) (lb : d1.length ≤ 9223372036854775807) (da : Dg W n1) (db : Dg W d1)
include la lb da db
end
end Go.Proofs.YtbhnafdmilfobaaGreat.Am

/- qp reckoning: decimal numbers, and fractions written over their first argument. -/
set_option linter.unusedVariables false
set_option linter.unusedSectionVars false
set_option linter.unusedSimpArgs false
set_option maxRecDepth 10000
namespace Go.Proofs.YtbhnafdmilfobaaGreat.Am
open Go

def okN (m e : Int) : Bool := decide (m = 0 ∧ e = 0 ∨ m.tmod 10 ≠ 0 ∧ -999999999 ≤ m ∧ m ≤ 999999999 ∧ -18 ≤ e ∧ e ≤ 9)
theorem qtL {m e : Int} : okN m e = true ↔ (m = 0 ∧ e = 0 ∨ m.tmod 10 ≠ 0 ∧ -999999999 ≤ m ∧ m ≤ 999999999 ∧ -18 ≤ e ∧ e ≤ 9) := by unfold okN; exact decide_eq_true_iff
theorem qtM {m e : Int} (h : okN m e = true) : -999999999 ≤ m ∧ m ≤ 999999999 ∧ -18 ≤ e ∧ e ≤ 9 := by
  rcases qtL.1 h with h | h <;> omega
theorem qwg (m e : Int) (b : Bool) (h : b = true ↔ (m = 0 ∧ e = 0 ∨ m.tmod 10 ≠ 0 ∧ -999999999 ≤ m ∧ m ≤ 999999999 ∧ -18 ≤ e ∧ e ≤ 9)) : b = okN m e := Bool.eq_iff_iff.2 (h.trans qtL.symm)
theorem qeX (m e : Int) : Rn (fun k => qdq k m e) (okN m e) := by
  refine Rn.up (f := fun k => qdq k m e) (Rn.eq 0 fun k _ => ?_)
  show qh1 k m e = _
  unfold qh1
  have t : m = 0 → m.tmod 10 = 0 := fun h => by rw [h]; rfl
  simp only [beq_iff_eq, decide_eq_true_eq, bne_iff_ne, ne_eq]
  repeat' split
  all_goals refine congrArg some (qwg m e _ ?_)
  all_goals simp only [beq_iff_eq, decide_eq_true_eq, Bool.false_eq_true, false_iff]
  all_goals grind
theorem qfV (m e : Int) : Rn (fun k => qbO k m e) (okN m e) := by
  refine Rn.up (f := fun k => qbO k m e) (Rn.eq 0 fun k _ => ?_)
  show qeI k m e = _
  unfold qeI
  have t : m = 0 → m.tmod 10 = 0 := fun h => by rw [h]; rfl
  simp only [beq_iff_eq, decide_eq_true_eq, bne_iff_ne, ne_eq, beq_eq_false_iff_ne]
  repeat' split
  all_goals refine congrArg some (qwg m e _ ?_)
  all_goals simp only [beq_iff_eq, decide_eq_true_eq, Bool.false_eq_true, false_iff]
  all_goals grind

def qfL (m e : Int) : Rat := if e < 0 then Rat.divInt m ((10 ^ (-e).toNat : Nat) : Int) else Rat.divInt (((10 ^ e.toNat : Nat) : Int) * m) 1
theorem qwh {s : Bool} {l : List Int} {x : Int} (h : Nm W s l x) (n : Nat) (hx : (x.natAbs : Int) < W ^ n) : l.length ≤ n :=
  (h.c.len_le (B := W) (by decide) n).2 (by rw [h.abs (B := W) (by decide)]; exact hx)
theorem W2 : (W ^ 2 : Int) = 18446744073709551616 := by decide
theorem Rl.t {α : Type} {c : Prop} [Decidable c] {f g : Nat → Nat → Option α} {r : α} (h : c) (hf : Rl f r) : Rl (fun k n => if c then f k n else g k n) r := by
  simpa only [if_pos h] using hf
theorem Rl.f {α : Type} {c : Prop} [Decidable c] {f g : Nat → Nat → Option α} {r : α} (h : ¬ c) (hg : Rl g r) : Rl (fun k n => if c then f k n else g k n) r := by
  simpa only [if_neg h] using hg
theorem Rl.at {α β : Type} {o : Option α} {g : Nat → Nat → α → Option β} {x : α} {r : β} (h : o = some x) (hg : Rl (fun k n => g k n x) r) : Rl (fun k n => Option.bind o (g k n)) r := by
  simpa only [h, Option.bind_some] using hg
theorem qx4 (c : Int) (hc : c ≤ 20) {t : Bool} {u : List Int} (nu : Nm W t u 10) (hu : u.length ≤ 2) : ∀ (n : Nat) (i : Int) (s : Bool) (z : List Int) (p : Int), 0 ≤ i → i + n = c → Nm W s z p → (z.length : Int) ≤ 100 + 2 * i →
    ∃ s' z', Rl (fun k m => qc7 k m c i s z t u) (s', z', t, u) ∧ Nm W s' z' (p * ((10 ^ n : Nat) : Int)) ∧ z'.length ≤ 200 := by
  intro n
  induction n with
  | zero =>
    intro i s z p h0 hi nz hz
    refine ⟨s, z, Rl.up (f := fun k m => qc7 k m c i s z t u) (Rl.of 0 fun k m _ => ?_), nz.cast (by simp), by omega⟩
    show qeS k (qc7 k m) c i s z t u = _
    unfold qeS
    exact if_neg (by simp; omega)
  | succ n ih =>
    intro i s z p h0 hi nz hz
    obtain ⟨s1, p1, a1, a2, a3⟩ := qtG s t z u nz nu (by omega) (by omega)
    obtain ⟨s', z', b1, b2, b3⟩ := ih (i + 1) s1 p1 (p * 10) (by omega) (by omega) a2 (by omega)
    refine ⟨s', z', Rl.up (f := fun k m => qc7 k m c i s z t u) ?_, b2.cast (by rw [Nat.pow_succ]; grind), b3⟩
    show Rl (fun k m => qeS k (qc7 k m) c i s z t u) _
    unfold qeS
    refine Rl.t (decide_eq_true (by omega)) (Rl.bind a1 ?_)
    rw [qK (by omega)]
    exact b1
theorem qEg (c : Int) (h : 0 ≤ c ∧ c ≤ 18) : ∃ s z, Rn (fun k => qfF k c) (s, z) ∧ Nm W s z ((10 ^ c.toNat : Nat) : Int) ∧ z.length ≤ 2 := by
  obtain ⟨l, a1, a2, a3⟩ := qdU 1 (by omega)
  obtain ⟨u, b1, b2, b3⟩ := qdU 10 (by omega)
  obtain ⟨s, z, c1, c2, c3⟩ := qx4 c (by omega) b2 b3 c.toNat 0 _ l 1 (by omega) (by omega) a2 (by omega)
  have hp : (10 ^ c.toNat : Nat) ≤ 10 ^ 18 := Nat.pow_le_pow_right (by decide) (by omega)
  have e18 : (10 ^ 18 : Nat) = 1000000000000000000 := by decide
  refine ⟨s, z, Rn.up (f := fun k => qfF k c) (Rn.bind a1 (Rn.bind b1 (Rn.bind c1.diag (Rn.pure _)))), c2.cast (by simp), qwh c2 2 (by rw [W2, Int.one_mul, Int.natAbs_natCast]; omega)⟩
theorem qpS (n : Nat) : (0 : Int) < ((10 ^ n : Nat) : Int) := by have := Nat.pow_pos (a := 10) (n := n) (by decide); omega
theorem qjF {m e : Int} (h : okN m e = true) : ∃ s p t r, Rn (fun k => qdJ k m e) (s, p, t, r) ∧ Fr s p t r (qfL m e) ∧ p.length ≤ 2 ∧ r.length ≤ 2 := by
  have hr := qtM h
  have hw : IntKind.i64.wrap (0 - e) = -e := by rw [qK (by omega)]; omega
  have hm : (if e < 0 then -e else e) = max e (-e) := by omega
  obtain ⟨s1, z1, a1, a2, a3⟩ := qEg (max e (-e)) (by omega)
  obtain ⟨l, b1, b2, b3⟩ := qdU m (by omega)
  have hpos := qpS (max e (-e)).toNat
  by_cases he : e < 0
  · have e1 : max e (-e) = -e := by omega
    rw [e1] at a1 a2 hpos
    obtain ⟨s, p, t, r, c1, c2, c3, c4⟩ := qhE _ _ l z1 b2 a2 (by omega) (by omega) (by omega)
    refine ⟨s, p, t, r, Rn.up (f := fun k => qdJ k m e) ?_, c2.cast (by rw [qfL, if_pos he]), by omega, by omega⟩
    show Rn (fun k => qf2 k m e) _
    unfold qf2
    rw [hw, e1]
    refine Rn.bind a1 (Rn.t (decide_eq_true (by omega)) (Rn.bind b1 (Rn.bind c1 (Rn.pure _))))
  · have e1 : max e (-e) = e := by omega
    rw [e1] at a1 a2 hpos
    obtain ⟨s2, p2, d1, d2, d3⟩ := qtG s1 _ z1 l a2 b2 (by omega) (by omega)
    obtain ⟨o, o1, o2, o3⟩ := qdU 1 (by omega)
    have hp : (10 ^ e.toNat : Nat) ≤ 10 ^ 9 := Nat.pow_le_pow_right (by decide) (by omega)
    have e9 : (10 ^ 9 : Nat) = 1000000000 := by decide
    have hlen : p2.length ≤ 2 := qwh d2 2 (by
      rw [W2, Int.natAbs_mul]
      have h1 : ((10 ^ e.toNat : Nat) : Int).natAbs ≤ 1000000000 := by omega
      have h2 : m.natAbs ≤ 1000000000 := by omega
      have := Nat.mul_le_mul h1 h2
      omega)
    obtain ⟨s, p, t, r, c1, c2, c3, c4⟩ := qhE _ _ p2 o d2 o2 (by omega) (by omega) (by omega)
    refine ⟨s, p, t, r, Rn.up (f := fun k => qdJ k m e) ?_, c2.cast (by rw [qfL, if_neg he]), by omega, by omega⟩
    show Rn (fun k => qf2 k m e) _
    unfold qf2
    rw [hw, e1]
    refine Rn.bind a1 (Rn.f (by rw [decide_eq_true_eq]; omega) (Rn.bind b1 (Rn.bind d1 (Rn.bind o1 (Rn.bind c1 (Rn.pure _))))))
theorem qx5 {m e : Int} (h : okN m e = true) : ∃ s p t r, Rn (fun k => qeC k m e) (s, p, t, r, 0) ∧ Fr s p t r (qfL m e) ∧ p.length ≤ 2 ∧ r.length ≤ 2 := by
  obtain ⟨s, p, t, r, a1, a2, a3, a4⟩ := qjF h
  refine ⟨s, p, t, r, Rn.up (f := fun k => qeC k m e) ?_, a2, a3, a4⟩
  show Rn (fun k => qh7 k m e) _
  unfold qh7
  have hv := qeX m e
  rw [h] at hv
  exact Rn.bind hv (Rn.f (by simp) (Rn.bind a1 (Rn.bind (qmq a2 (show p.length ≤ 1000000 by omega) (show r.length ≤ 1000000 by omega)) (Rn.pure _))))
theorem qzX {n0 d0 : Bool} {n1 d1 : List Int} {q : Rat} (h : Fr n0 n1 d0 d1 q) (l1 : n1.length ≤ 1000000) (l3 : d1.length ≤ 1000000) :
    ∃ s p t r, Rn (fun k => qdK k n0 n1 d0 d1) (s, p, t, r) ∧ Fr s p t r q ∧ p.length ≤ n1.length ∧ r.length ≤ d1.length := by
  have hd := Rat.den_pos' q
  obtain ⟨s, p, t, r, c1, c2, c3, c4⟩ := qhE n0 d0 n1 d1 h.1 h.2 l1 l3 (by omega)
  exact ⟨s, p, t, r, Rn.up (f := fun k => qdK k n0 n1 d0 d1) (Rn.bind (qlr h.1 (by omega)) (Rn.bind (qlr h.2 (by omega)) (Rn.bind c1 (Rn.pure _)))), c2.cast (Rat.num_divInt_den q), c3, c4⟩
theorem qwi (n d : Int) (hn : -9223372036854775808 ≤ n ∧ n ≤ 9223372036854775807) (hd : -9223372036854775808 ≤ d ∧ d ≤ 9223372036854775807) (h0 : d ≠ 0) :
    ∃ s p t r, Rn (fun k => qd1 k n d) (s, p, t, r) ∧ Fr s p t r (Rat.divInt n d) ∧ p.length ≤ 2 ∧ r.length ≤ 2 := by
  obtain ⟨l, a1, a2, a3⟩ := qdU n hn
  obtain ⟨m, b1, b2, b3⟩ := qdU d hd
  obtain ⟨s, p, t, r, c1, c2, c3, c4⟩ := qhE _ _ l m a2 b2 (by omega) (by omega) h0
  exact ⟨s, p, t, r, Rn.up (f := fun k => qd1 k n d) (Rn.bind a1 (Rn.bind b1 (Rn.bind c1 (Rn.pure _)))), c2, by omega, by omega⟩
theorem qwj (k : Nat) (z0 z2 : Bool) (z1 z3 : List Int) (n0 d0 : Bool) (n1 d1 : List Int) : qbc k z0 z1 z2 z3 n0 n1 d0 d1 = qam k false false n0 n1 d0 d1 := by cases k <;> rfl
section
variable {x0 x2 y0 y2 : Bool} {x1 x3 y1 y3 : List Int} {x y : Rat} (hx : Fr x0 x1 x2 x3 x) (hy : Fr y0 y1 y2 y3 y) (l1 : x1.length ≤ 100000) (l3 : x3.length ≤ 100000) (m1 : y1.length ≤ 100000) (m3 : y3.length ≤ 100000)
include hx hy l1 l3 m1 m3
theorem qx6 : ∃ s p t r, Rn (fun k => qcU k x0 x1 x2 x3 y0 y1 y2 y3) (s, p, t, r, y0, y1, y2, y3) ∧ Fr s p t r (x + y) ∧ p.length ≤ max (x1.length + y3.length) (y1.length + x3.length) + 1 ∧ r.length ≤ x3.length + y3.length := by
  have dX := qc6 hx (by omega) (by omega)
  have dY := qc6 hy (by omega) (by omega)
  obtain ⟨s1, p1, a1, a2, a3⟩ := qfK false x0 y2 x2 x1 y3 x3 hx.1 hy.2 (by omega) (by omega)
  obtain ⟨s2, p2, b1, b2, b3⟩ := qfK false y0 x2 y2 y1 x3 y3 hy.1 hx.2 (by omega) (by omega)
  obtain ⟨s3, p3, c1, c2, c3⟩ := qfJ false x2 y2 x3 y3 hx.2 hy.2 (by omega) (by omega)
  obtain ⟨s4, p4, d1, d2, d3⟩ := qpw s1 s2 p1 p2 a2 b2 (by omega) (by omega)
  have hdx := Rat.den_pos' x
  have hdy := Rat.den_pos' y
  have hd := Int.mul_pos hdx hdy
  obtain ⟨s, p, t, r, e1, e2, e3, e4⟩ := qgj false false s4 s3 p4 p3 d2 c2 (by omega) (by omega) (by omega)
  have e1' : Rn (fun k => qbc k x0 x1 x2 x3 s4 p4 s3 p3) (s, p, t, r, s4, p4, s3, p3) := by simpa only [qwj] using e1
  refine ⟨s, p, t, r, Rn.up (f := fun k => qcU k x0 x1 x2 x3 y0 y1 y2 y3) ?_, e2.cast (qpx x y), by omega, by omega⟩
  exact Rn.bind dY (Rn.bind a1 (Rn.bind dX (Rn.bind b1 (Rn.bind dX (Rn.bind dY (Rn.bind c1 (Rn.bind d1 (Rn.bind e1' (Rn.pure _)))))))))
theorem qx7 : ∃ s p t r, Rn (fun k => qbw k x0 x1 x2 x3 y0 y1 y2 y3) (s, p, t, r, y0, y1, y2, y3) ∧ Fr s p t r (x * y) ∧ p.length ≤ x1.length + y1.length ∧ r.length ≤ x3.length + y3.length := by
  have dX := qc6 hx (by omega) (by omega)
  have dY := qc6 hy (by omega) (by omega)
  obtain ⟨s1, p1, a1, a2, a3⟩ := qtF false x0 y0 x2 y2 x1 y1 x3 y3 hx.1 hy.1 (by omega) (by omega)
  obtain ⟨s3, p3, c1, c2, c3⟩ := qfJ false x2 y2 x3 y3 hx.2 hy.2 (by omega) (by omega)
  have hdx := Rat.den_pos' x
  have hdy := Rat.den_pos' y
  have hd := Int.mul_pos hdx hdy
  obtain ⟨s, p, t, r, e1, e2, e3, e4⟩ := qgj false false s1 s3 p1 p3 a2 c2 (by omega) (by omega) (by omega)
  have e1' : Rn (fun k => qbc k x0 x1 x2 x3 s1 p1 s3 p3) (s, p, t, r, s1, p1, s3, p3) := by simpa only [qwj] using e1
  refine ⟨s, p, t, r, Rn.up (f := fun k => qbw k x0 x1 x2 x3 y0 y1 y2 y3) ?_, e2.cast (qpy x y), by omega, by omega⟩
  exact Rn.bind a1 (Rn.bind dX (Rn.bind dY (Rn.bind c1 (Rn.bind e1' (Rn.pure _)))))
end
theorem qwk (a b c d : Int) : Rn (fun k => qfa k a b c d) (if okN a b = true ∧ okN c d = true then (qie (qfL a b) (qfL c d), 0) else (0, 30)) := by
  refine Rn.up (f := fun k => qfa k a b c d) ?_
  show Rn (fun k => ql4 k a b c d) _
  unfold ql4
  refine Rn.bind (qeX a b) ?_
  by_cases h : okN a b = true
  · refine Rn.t (by simp [h]) (Rn.bind (qeX c d) ?_)
    by_cases h' : okN c d = true
    · rw [if_pos ⟨h, h'⟩]
      refine Rn.f (by simp [h']) ?_
      obtain ⟨s, p, t, r, a1, a2, a3, a4⟩ := qjF h
      obtain ⟨s1, p1, t1, r1, b1, b2, b3, b4⟩ := qjF h'
      exact Rn.bind a1 (Rn.bind b1 (Rn.bind (qpz a2 b2 (show p.length ≤ 100000 by omega) (show r.length ≤ 100000 by omega) (show p1.length ≤ 100000 by omega) (show r1.length ≤ 100000 by omega)) (Rn.pure _)))
    · rw [if_neg (fun x => h' x.2)]
      exact Rn.t (by simp [h']) (Rn.pure _)
  · rw [if_neg (fun x => h x.1)]
    exact Rn.f (by simp [h]) (Rn.pure _)
end Go.Proofs.YtbhnafdmilfobaaGreat.Am

/- qp reckoning: the reference's sums and products of fractions. -/
set_option linter.unusedVariables false
set_option linter.unusedSectionVars false
set_option linter.unusedSimpArgs false
set_option maxRecDepth 10000
namespace Go.Proofs.YtbhnafdmilfobaaGreat.Am
open Go
section
variable {x0 x2 y0 y2 : Bool} {x1 x3 y1 y3 : List Int} {x y : Rat} (hx : FrU x0 x1 x2 x3 x) (hy : FrU y0 y1 y2 y3 y) (l1 : x1.length ≤ 10000) (l3 : x3.length ≤ 10000) (m1 : y1.length ≤ 10000) (m3 : y3.length ≤ 10000)
include hx hy l1 l3 m1 m3
theorem qsW : ∃ s p t r, Rn (fun k => qca k x0 x1 x2 x3 y0 y1 y2 y3) (s, p, t, r) ∧ FrU s p t r (x + y) ∧ p.length ≤ x1.length + y3.length + y1.length + x3.length + 1 ∧ r.length ≤ x3.length + y3.length := by
  have dx := Rat.den_pos' x
  have dy := Rat.den_pos' y
  have dd := Int.mul_pos dx dy
  obtain ⟨s1, n1, a1, a2, a3⟩ := qdA x0 y2 x1 y3 hx.1 hy.2 (by omega) (by omega)
  obtain ⟨s2, n2, b1, b2, b3⟩ := qdA y0 x2 y1 x3 hy.1 hx.2 (by omega) (by omega)
  obtain ⟨s3, n3, c1, c2, c3⟩ := qtH s1 s2 n1 n2 a2 b2 (by omega) (by omega)
  obtain ⟨s4, n4, d1, d2, d3⟩ := qdA x2 y2 x3 y3 hx.2 hy.2 (by omega) (by omega)
  obtain ⟨s, p, t, r, e1, e2, e3, e4⟩ := qik _ _ _ _ c2 d2 (by omega) (by omega) (by omega)
  exact ⟨s, p, t, r, Rn.up (f := fun k => qca k x0 x1 x2 x3 y0 y1 y2 y3) (Rn.bind a1 (Rn.bind b1 (Rn.bind c1 (Rn.bind d1 (Rn.bind e1 (Rn.pure _)))))), e2.cast (qpx x y), by omega, by omega⟩
theorem qjG : ∃ s p t r, Rn (fun k => qbe k x0 x1 x2 x3 y0 y1 y2 y3) (s, p, t, r) ∧ FrU s p t r (x * y) ∧ p.length ≤ x1.length + y1.length ∧ r.length ≤ x3.length + y3.length := by
  have dx := Rat.den_pos' x
  have dy := Rat.den_pos' y
  have dd := Int.mul_pos dx dy
  obtain ⟨s1, n1, a1, a2, a3⟩ := qdA x0 y0 x1 y1 hx.1 hy.1 (by omega) (by omega)
  obtain ⟨s4, n4, d1, d2, d3⟩ := qdA x2 y2 x3 y3 hx.2 hy.2 (by omega) (by omega)
  obtain ⟨s, p, t, r, e1, e2, e3, e4⟩ := qik _ _ _ _ a2 d2 (by omega) (by omega) (by omega)
  exact ⟨s, p, t, r, Rn.up (f := fun k => qbe k x0 x1 x2 x3 y0 y1 y2 y3) (Rn.bind a1 (Rn.bind d1 (Rn.bind e1 (Rn.pure _)))), e2.cast (qpy x y), by omega, by omega⟩
end
theorem qwl {y0 y2 : Bool} {y1 y3 : List Int} {y : Rat} (hy : FrU y0 y1 y2 y3 y) : ∃ s p, Rn (fun k => qcC k y0 y1 y2 y3) (s, p, y2, y3) ∧ FrU s p y2 y3 (-y) ∧ p.length ≤ y1.length := by
  obtain ⟨s0, n0, m1, m2, m3⟩ := qii y0 y1 hy.1
  exact ⟨s0, n0, Rn.up (f := fun k => qcC k y0 y1 y2 y3) (Rn.bind m1 (Rn.pure _)), ⟨by rw [Rat.neg_num]; exact m2, by rw [Rat.neg_den]; exact hy.2⟩, m3⟩
theorem qx8 {x0 x2 y0 y2 : Bool} {x1 x3 y1 y3 : List Int} {x y : Rat} (hx : FrU x0 x1 x2 x3 x) (hy : FrU y0 y1 y2 y3 y) (l1 : x1.length ≤ 10000) (l3 : x3.length ≤ 10000) (m1 : y1.length ≤ 10000) (m3 : y3.length ≤ 10000) :
    ∃ s p t r, Rn (fun k => qc4 k x0 x1 x2 x3 y0 y1 y2 y3) (s, p, t, r) ∧ FrU s p t r (x - y) ∧ p.length ≤ x1.length + y3.length + y1.length + x3.length + 1 ∧ r.length ≤ x3.length + y3.length := by
  obtain ⟨s0, n0, a1, a2, a3⟩ := qwl hy
  obtain ⟨s, p, t, r, e1, e2, e3, e4⟩ := qsW hx a2 l1 l3 (by omega) m3
  exact ⟨s, p, t, r, Rn.up (f := fun k => qc4 k x0 x1 x2 x3 y0 y1 y2 y3) (Rn.bind a1 (Rn.bind e1 (Rn.pure _))), e2.cast (Rat.sub_eq_add_neg x y).symm, by omega, by omega⟩
theorem qtN {s t : Bool} {p r : List Int} {z : Int} (h : Nm U s p z) (h1 : Nm U t r 1) : FrU s p t r (Rat.divInt z 1) := by
  have e : Rat.divInt z 1 = (z : Rat) := Rat.num_divInt_den (z : Rat)
  rw [e]
  exact ⟨h, h1⟩
theorem qwm (v : Int) (hv : -9223372036854775808 ≤ v ∧ v ≤ 9223372036854775807) : ∃ s p t r, Rn (fun k => qcn k v) (s, p, t, r) ∧ FrU s p t r (Rat.divInt v 1) ∧ p.length ≤ 4 ∧ r.length ≤ 4 := by
  obtain ⟨l, a1, a2, a3⟩ := qsU v hv
  obtain ⟨o, b1, b2, b3⟩ := qfk 1 (by decide)
  exact ⟨_, l, _, o, Rn.up (f := fun k => qcn k v) (Rn.bind a1 (Rn.bind b1 (Rn.pure _))), qtN a2 b2, a3, b3⟩
end Go.Proofs.YtbhnafdmilfobaaGreat.Am

/- qp reckoning: which waves are right. -/
set_option linter.unusedVariables false
set_option linter.unusedSectionVars false
set_option linter.unusedSimpArgs false
set_option maxRecDepth 10000
namespace Go.Proofs.YtbhnafdmilfobaaGreat.Am
open Go

theorem qpC {A B : Type} (L s : Nat) (F : Nat → Nat → Int → Option (A ⊕ B)) (b : B) (P : A → Prop) (ok : Nat → Prop)
    (hend : Rl (fun k n => F k n (L : Int)) (.inr b))
    (hgo : ∀ i : Nat, s ≤ i → i < L → ok i → ∀ o, Rl (fun k n => F k n ((i : Int) + 1)) o → Rl (fun k n => F k n (i : Int)) o)
    (hno : ∀ i : Nat, s ≤ i → i < L → ¬ ok i → ∃ a, P a ∧ Rl (fun k n => F k n (i : Int)) (.inl a)) :
    ∀ d i : Nat, s ≤ i → i + d = L → ∃ o, Rl (fun k n => F k n (i : Int)) o ∧ ((∀ j, i ≤ j → j < L → ok j) ∧ o = .inr b ∨ (¬ ∀ j, i ≤ j → j < L → ok j) ∧ ∃ a, P a ∧ o = .inl a) := by
  intro d
  induction d with
  | zero =>
    intro i hs hi
    obtain rfl : i = L := by omega
    exact ⟨_, hend, .inl ⟨fun j h1 h2 => absurd h2 (by omega), rfl⟩⟩
  | succ d ih =>
    intro i hs hi
    by_cases h : ok i
    · obtain ⟨o, h1, h2⟩ := ih (i + 1) (by omega) (by omega)
      refine ⟨o, hgo i hs (by omega) h o h1, ?_⟩
      have e : (∀ j, i + 1 ≤ j → j < L → ok j) ↔ (∀ j, i ≤ j → j < L → ok j) := ⟨fun g j j1 j2 => by
        rcases Nat.lt_or_ge i j with k | k
        · exact g j k j2
        · exact (show i = j by omega) ▸ h, fun g j j1 j2 => g j (by omega) j2⟩
      rwa [e] at h2
    · obtain ⟨a, h1, h2⟩ := hno i hs (by omega) h
      exact ⟨_, h2, .inr ⟨fun g => h (g i (Nat.le_refl _) (by omega)), a, h1, rfl⟩⟩
theorem getD_some {α : Type} {l : List α} {i : Nat} (d : α) (h : i < l.length) : l[i]? = some (l.getD i d) := by
  rw [List.getElem?_eq_getElem h]; simp [List.getD, h]
structure OkW (w0 : Int) (w1 : List (Int × Int)) (w2 : List Int) : Prop where
  vals : ∀ j, 0 ≤ j → j < w1.length → okN (w1.getD j (0, 0)).1 (w1.getD j (0, 0)).2 = true
  steps : ∀ j, 0 ≤ j → j < w2.length → 0 ≤ w2.getD j 0 ∧ w2.getD j 0 ≤ 1000000000
  kind : w0 = 1 ∧ w1.length = 1 ∧ w2.length = 0 ∨ w0 = 2 ∧ w1.length = 2 ∧ w2.length = 5 ∧ 1 ≤ w2.getD 4 0 ∧ w2.getD 1 0 + w2.getD 2 0 + w2.getD 3 0 ≤ w2.getD 4 0 ∨
    w0 = 3 ∧ w1.length = w2.length ∧ 1 ≤ w1.length ∧ w1.length ≤ 16 ∧ (∀ j, 1 ≤ j → j < w2.length → w2.getD (j - 1) 0 < w2.getD j 0) ∨ w0 = 4 ∧ 1 ≤ w1.length ∧ w1.length ≤ 16 ∧ w2.length = 0
section
variable (w0 : Int) (w1 : List (Int × Int)) (w2 : List Int) (h1 : w1.length ≤ 1000000000000000000) (h2 : w2.length ≤ 1000000000000000000)
include h1 h2
end
end Go.Proofs.YtbhnafdmilfobaaGreat.Am

/- qp reckoning: what a wave says. -/
set_option linter.unusedVariables false
set_option linter.unusedSectionVars false
set_option linter.unusedSimpArgs false
set_option maxRecDepth 10000
namespace Go.Proofs.YtbhnafdmilfobaaGreat.Am
open Go

def qbo (w1 : List (Int × Int)) (j : Nat) : Rat := qfL (w1.getD j (0, 0)).1 (w1.getD j (0, 0)).2
section
variable {w0 : Int} {w1 : List (Int × Int)} {w2 : List Int} (hw : OkW w0 w1 w2) {step : Int} (h0 : 0 ≤ step) (h1 : step ≤ 1000000000)
include hw h0 h1
end
end Go.Proofs.YtbhnafdmilfobaaGreat.Am

/- qp reckoning: the reference's numbers, and what its waves say. -/
set_option linter.unusedVariables false
set_option linter.unusedSectionVars false
set_option linter.unusedSimpArgs false
set_option maxRecDepth 10000
namespace Go.Proofs.YtbhnafdmilfobaaGreat.Am
open Go
theorem qve (c : Int) (hc : c ≤ 18) (x0 : Bool) (x1 : Nat) (ms : List Int) : ∀ (n : Nat) (i : Int) (s : Bool) (z : List Int) (p : Int), 0 ≤ i → i + n = c → Nm U s z p → (z.length : Int) ≤ 4 + 4 * i →
    ∃ s' z', Rl (fun k m => qah k m c i x0 x1 s z ms) (x0, x1, s', z', ms) ∧ Nm U s' z' (p * ((10 ^ n : Nat) : Int)) ∧ z'.length ≤ 80 := by
  intro n
  induction n with
  | zero =>
    intro i s z p h0 hi nz hz
    refine ⟨s, z, Rl.up (f := fun k m => qah k m c i x0 x1 s z ms) (Rl.of 0 fun k m _ => ?_), nz.cast (by simp), by omega⟩
    show qcy k (qah k m) _ _ _ _ _ _ _ = _
    unfold qcy
    exact if_neg (by simp; omega)
  | succ n ih =>
    intro i s z p h0 hi nz hz
    obtain ⟨t, t1, t2, t3⟩ := qfk 10 (by decide)
    obtain ⟨s1, p1, a1, a2, a3⟩ := qdA s _ z t nz t2 (by omega) (by omega)
    obtain ⟨s', z', b1, b2, b3⟩ := ih (i + 1) s1 p1 (p * 10) (by omega) (by omega) a2 (by omega)
    refine ⟨s', z', Rl.up (f := fun k m => qah k m c i x0 x1 s z ms) ?_, b2.cast (by rw [Nat.pow_succ]; grind), b3⟩
    show Rl (fun k m => qcy k (qah k m) _ _ _ _ _ _ _) _
    unfold qcy
    refine Rl.t (decide_eq_true (by omega)) (Rl.bind t1 (Rl.bind a1 ?_))
    rw [qK (by omega)]
    exact b1
theorem qsX (c : Int) (h : 0 ≤ c ∧ c ≤ 18) : ∃ s z, Rn (fun k => qbP k c) (s, z) ∧ Nm U s z ((10 ^ c.toNat : Nat) : Int) ∧ z.length ≤ 80 := by
  obtain ⟨l, a1, a2, a3⟩ := qfk 1 (by decide)
  obtain ⟨s, z, c1, c2, c3⟩ := qve c (by omega) false 0 [] c.toNat 0 _ l 1 (by omega) (by omega) a2 (by omega)
  exact ⟨s, z, Rn.up (f := fun k => qbP k c) (Rn.bind a1 (Rn.bind c1.diag (Rn.pure _))), c2.cast (by simp), c3⟩
theorem qhF {m e : Int} (h : okN m e = true) : ∃ s p t r, Rn (fun k => qaJ k m e) (s, p, t, r) ∧ FrU s p t r (qfL m e) ∧ p.length ≤ 90 ∧ r.length ≤ 90 := by
  have hr := qtM h
  obtain ⟨l, b1, b2, b3⟩ := qsU m (by omega)
  have up : ∀ {q}, Rn (fun k => qhp k m e) q → Rn (fun k => qaJ k m e) q := fun h => Rn.up (f := fun k => qaJ k m e) h
  by_cases he : e < 0
  · obtain ⟨s1, z1, a1, a2, a3⟩ := qsX (-e) (by omega)
    have hpos := qpS (-e).toNat
    obtain ⟨s, p, t, r, c1, c2, c3, c4⟩ := qik _ _ l z1 b2 a2 (by omega) (by omega) (by omega)
    refine ⟨s, p, t, r, up (Rn.bind b1 (Rn.t (decide_eq_true he) ?_)), c2.cast (by rw [qfL, if_pos he]), by omega, by omega⟩
    rw [qK (by omega), show 0 - e = -e by omega]
    exact Rn.bind a1 (Rn.bind c1 (Rn.pure _))
  · obtain ⟨s1, z1, a1, a2, a3⟩ := qsX e (by omega)
    obtain ⟨s2, p2, d1, d2, d3⟩ := qdA _ s1 l z1 b2 a2 (by omega) (by omega)
    obtain ⟨o, o1, o2, o3⟩ := qfk 1 (by decide)
    refine ⟨s2, p2, _, o, up (Rn.bind b1 (Rn.f (by rw [decide_eq_true_eq]; exact he) (Rn.bind a1 (Rn.bind d1 (Rn.bind o1 (Rn.pure _)))))), (qtN d2 o2).cast (by rw [qfL, if_neg he, Int.mul_comm]), by omega, by omega⟩
section
variable {w0 : Int} {w1 : List (Int × Int)} {w2 : List Int} {step : Int} {x0 x2 : Bool} {x1 x3 : Nat} {m m1 : List Int} (hl : w2.length ≤ 16)
include hl
end
end Go.Proofs.YtbhnafdmilfobaaGreat.Am

/- qp reckoning: qgN, and which models are right. -/
set_option linter.unusedVariables false
set_option linter.unusedSectionVars false
set_option linter.unusedSimpArgs false
set_option maxRecDepth 10000
namespace Go.Proofs.YtbhnafdmilfobaaGreat.Am
open Go
def nmB (x : Int) : Bool := decide (97 ≤ x ∧ x ≤ 122 ∨ 48 ≤ x ∧ x ≤ 57 ∨ x = 95)
def byL (s : ByteArray) : List Int := s.data.toList.map fun b : UInt8 => ((b.toNat : Nat) : Int)
theorem qtO (s : ByteArray) : (byL s).length = s.size := by unfold byL; rw [List.length_map]; exact Array.length_toList
def qfB (s : ByteArray) : Bool := (byL s).all nmB && decide (1 ≤ s.size ∧ s.size ≤ 16)
theorem qil {l : List Int} {p : Int → Bool} : l.all p = true ↔ ∀ j, 0 ≤ j → j < l.length → p (l.getD j 0) = true := by
  rw [List.all_eq_true]
  constructor
  · intro h j _ hj
    have := h (l[j]'hj) (List.getElem_mem hj)
    simpa [List.getD, hj] using this
  · intro h x hx
    obtain ⟨j, hj, rfl⟩ := List.mem_iff_getElem.1 hx
    have := h j (Nat.zero_le _) hj
    simpa [List.getD, hj] using this
theorem qwn (l : List Int) (hl : l.length ≤ 1000000000000000000) : ∃ o, Rl (fun k n => qaH k n l l.length 0) o ∧ ((∀ j, 0 ≤ j → j < l.length → nmB (l.getD j 0) = true) ∧ o = .inr () ∨ (¬ ∀ j, 0 ≤ j → j < l.length → nmB (l.getD j 0) = true) ∧ ∃ a : Bool, a = false ∧ o = .inl a) := by
  have key : ∀ (k : Nat) (rec : List Int → Int → Int → Option (Bool ⊕ Unit)) (i : Nat), i < l.length → qcV k rec l l.length i = if nmB (l.getD i 0) = true then rec l l.length ((i : Int) + 1) else some (.inl false) := by
    intro k rec i hi
    unfold qcV nmB
    rw [if_pos (decide_eq_true (by omega)), if_pos (by omega), Int.toNat_natCast, getD_some 0 hi, qK (by omega)]
    simp only [Option.bind_some, decide_eq_true_eq, decide_eq_false_iff_not, Bool.not_eq_true', beq_eq_false_iff_ne]
    repeat' split
    all_goals first | rfl | (exfalso; omega)
  refine qpC l.length 0 (fun k n i => qaH k n l l.length i) () (fun a => a = false) (fun j => nmB (l.getD j 0) = true) ?_ ?_ ?_ l.length 0 (by omega) (by omega)
  · refine Rl.up (f := fun k n => qaH k n l l.length l.length) (Rl.of 0 fun k n _ => ?_)
    show qcV k (qaH k n) _ _ _ = _
    unfold qcV
    exact if_neg (by simp)
  · intro i hs hi hok o ho
    refine Rl.up (f := fun k n => qaH k n l l.length i) ?_
    show Rl (fun k n => qcV k (qaH k n) _ _ _) _
    simp only [key _ _ i hi, hok, if_true]
    exact ho
  · intro i hs hi hok
    refine ⟨false, rfl, Rl.up (f := fun k n => qaH k n l l.length i) ?_⟩
    show Rl (fun k n => qcV k (qaH k n) _ _ _) _
    simp only [key _ _ i hi, hok]
    exact Rl.pure _
theorem qzY (s : ByteArray) (hs : s.size ≤ 1000000000000000000) : Rn (fun k => qd2 k s) (qfB s) := by
  refine Rn.up (f := fun k => qd2 k s) ?_
  show Rn (fun k => qg1 k s) _
  unfold qg1 qfB
  by_cases h1 : s.size < 1
  · refine Rn.f (by rw [decide_eq_false_iff_not]; omega) ?_
    rw [show decide (1 ≤ s.size ∧ s.size ≤ 16) = false from decide_eq_false (by omega), Bool.and_false]
    exact Rn.pure _
  refine Rn.t (by rw [decide_eq_false_iff_not]; omega) ?_
  by_cases h2 : s.size > 16
  · refine Rn.t (decide_eq_true (by omega)) ?_
    rw [show decide (1 ≤ s.size ∧ s.size ≤ 16) = false from decide_eq_false (by omega), Bool.and_false]
    exact Rn.pure _
  refine Rn.f (by rw [decide_eq_true_eq]; omega) ?_
  rw [show decide (1 ≤ s.size ∧ s.size ≤ 16) = true from decide_eq_true (by omega), Bool.and_true]
  obtain ⟨o, h3, h4⟩ := qwn (byL s) (by rw [qtO]; exact hs)
  refine Rn.bind h3.diag ?_
  rcases h4 with ⟨h4, rfl⟩ | ⟨h4, a, rfl, rfl⟩
  · rw [qil.2 h4]; exact Rn.pure _
  · rw [Bool.eq_false_iff.2 fun h => h4 (qil.1 h)]; exact Rn.pure _
theorem qJe {s : ByteArray} {i : Nat} (hi : i < s.size) : ∃ b : UInt8, s.data[i]? = some b ∧ (byL s).getD i 0 = (b.toNat : Int) := by
  have hi' : i < s.data.size := hi
  refine ⟨s.data[i], Array.getElem?_eq_getElem hi', ?_⟩
  unfold byL
  rw [List.getD_eq_getElem?_getD, List.getElem?_map, Array.getElem?_toList, Array.getElem?_eq_getElem hi']
  rfl
theorem qvf (s : ByteArray) (hs : s.size ≤ 1000000000000000000) : ∃ o, Rl (fun k n => qP k n s 0) o ∧ ((∀ j, 0 ≤ j → j < (byL s).length → nmB ((byL s).getD j 0) = true) ∧ o = .inr s ∨ (¬ ∀ j, 0 ≤ j → j < (byL s).length → nmB ((byL s).getD j 0) = true) ∧ ∃ a : Bool, a = false ∧ o = .inl a) := by
  have hl := qtO s
  have key : ∀ (k : Nat) (rec : ByteArray → Int → Option (Bool ⊕ ByteArray)) (i : Nat), i < s.size → qbf k rec s i = if nmB ((byL s).getD i 0) = true then rec s ((i : Int) + 1) else some (.inl false) := by
    intro k rec i hi
    obtain ⟨b, h1, h2⟩ := qJe hi
    unfold qbf nmB
    rw [if_pos (decide_eq_true (by omega)), if_pos (by omega), Int.toNat_natCast, h1, h2, qK (by omega)]
    simp only [Option.bind_some, decide_eq_true_eq, decide_eq_false_iff_not, bne_iff_ne, ne_eq]
    repeat' split
    all_goals first | rfl | (exfalso; omega)
  refine qpC (byL s).length 0 (fun k n i => qP k n s i) s (fun a => a = false) (fun j => nmB ((byL s).getD j 0) = true) ?_ ?_ ?_ (byL s).length 0 (by omega) (by omega)
  · refine Rl.up (f := fun k n => qP k n s (byL s).length) (Rl.of 0 fun k n _ => ?_)
    show qbf k (qP k n) _ _ = _
    unfold qbf
    exact if_neg (by rw [decide_eq_true_eq]; omega)
  · intro i hs hi hok o ho
    refine Rl.up (f := fun k n => qP k n s i) ?_
    show Rl (fun k n => qbf k (qP k n) _ _) _
    simp only [key _ _ i (by omega), hok, if_true]
    exact ho
  · intro i hs hi hok
    refine ⟨false, rfl, Rl.up (f := fun k n => qP k n s i) ?_⟩
    show Rl (fun k n => qbf k (qP k n) _ _) _
    simp only [key _ _ i (by omega), hok]
    exact Rl.pure _
theorem qx9 (s : ByteArray) (hs : s.size ≤ 1000000000000000000) : Rn (fun k => qc2 k s) (qfB s) := by
  refine Rn.up (f := fun k => qc2 k s) ?_
  show Rn (fun k => qfd k s) _
  unfold qfd qfB
  obtain ⟨o, h3, h4⟩ := qvf s hs
  refine Rn.bind h3.diag ?_
  rcases h4 with ⟨h4, rfl⟩ | ⟨h4, a, rfl, rfl⟩
  · rw [qil.2 h4, Bool.true_and]
    by_cases h1 : 1 ≤ s.size
    · refine Rn.t (decide_eq_true (by omega)) ?_
      rw [show decide (((s.size : Nat) : Int) ≤ 16) = decide (1 ≤ s.size ∧ s.size ≤ 16) from decide_eq_decide.2 (by omega)]
      exact Rn.pure _
    · refine Rn.f (by rw [decide_eq_true_eq]; omega) ?_
      rw [show decide (1 ≤ s.size ∧ s.size ≤ 16) = false from decide_eq_false (by omega)]
      exact Rn.pure _
  · rw [Bool.eq_false_iff.2 fun h => h4 (qil.1 h)]; exact Rn.pure _
end Go.Proofs.YtbhnafdmilfobaaGreat.Am

/- qp reckoning: which models are right, by the program and by the reference. -/
set_option linter.unusedVariables false
set_option linter.unusedSectionVars false
set_option linter.unusedSimpArgs false
set_option maxRecDepth 10000
namespace Go.Proofs.YtbhnafdmilfobaaGreat.Am
open Go
theorem qJf {A B : Type} (L s : Nat) (F : Nat → Nat → Int → Option (A ⊕ B)) (b : B) (P : A → Prop) (ok : Nat → Prop)
    (hend : Rl (fun k n => F k n (L : Int)) (.inr b))
    (hgo : ∀ i : Nat, s ≤ i → i < L → (∀ j, s ≤ j → j < i → ok j) → ok i → ∀ o, Rl (fun k n => F k n ((i : Int) + 1)) o → Rl (fun k n => F k n (i : Int)) o)
    (hno : ∀ i : Nat, s ≤ i → i < L → (∀ j, s ≤ j → j < i → ok j) → ¬ ok i → ∃ a, P a ∧ Rl (fun k n => F k n (i : Int)) (.inl a)) :
    ∀ d i : Nat, s ≤ i → i + d = L → (∀ j, s ≤ j → j < i → ok j) → ∃ o, Rl (fun k n => F k n (i : Int)) o ∧ ((∀ j, s ≤ j → j < L → ok j) ∧ o = .inr b ∨ (¬ ∀ j, s ≤ j → j < L → ok j) ∧ ∃ a, P a ∧ o = .inl a) := by
  intro d
  induction d with
  | zero =>
    intro i hs hi hp
    obtain rfl : i = L := by omega
    exact ⟨_, hend, .inl ⟨hp, rfl⟩⟩
  | succ d ih =>
    intro i hs hi hp
    by_cases h : ok i
    · obtain ⟨o, h1, h2⟩ := ih (i + 1) (by omega) (by omega) (fun j j1 j2 => by
        rcases Nat.lt_or_ge j i with k | k
        · exact hp j j1 k
        · exact (show i = j by omega) ▸ h)
      exact ⟨o, hgo i hs (by omega) hp h o h1, h2⟩
    · obtain ⟨a, h1, h2⟩ := hno i hs (by omega) hp h
      exact ⟨_, h2, .inr ⟨fun g => h (g i hs (by omega)), a, h1, rfl⟩⟩
def qfM (l : List (Int × Int)) : Prop := ∀ j, 0 ≤ j → j < l.length → okN (l.getD j (0, 0)).1 (l.getD j (0, 0)).2 = true
structure OkM (m1 : Int) (m2 m3 : List (Int × Int)) : Prop where
  gs : qfM m2
  vs : qfM m3
  kind : m1 = 115 ∧ m2.length = 2 ∧ m3.length = 1 ∨ m1 = 100 ∧ 1 ≤ m2.length ∧ m2.length ≤ 4 ∧ m3.length + 1 = m2.length ∧ ∀ j, 1 ≤ j → j < m3.length → qbo m3 (j - 1) < qbo m3 j
noncomputable def okM (m0 : ByteArray) (m1 : Int) (m2 m3 : List (Int × Int)) : Bool := qfB m0 && @decide (OkM m1 m2 m3) (Classical.propDecidable _)
theorem qfN {m0 : ByteArray} {m1 : Int} {m2 m3 : List (Int × Int)} : okM m0 m1 m2 m3 = true ↔ qfB m0 = true ∧ OkM m1 m2 m3 := by
  unfold okM
  rw [Bool.and_eq_true, @decide_eq_true_iff _ (Classical.propDecidable _)]
theorem qco {m0 : ByteArray} {m1 : Int} {m2 m3 : List (Int × Int)} {b : Bool} (h : b = true ↔ qfB m0 = true ∧ OkM m1 m2 m3) : b = okM m0 m1 m2 m3 := Bool.eq_iff_iff.2 (h.trans qfN.symm)
theorem qhG {a b : Rat} : qie a b ≥ 0 ↔ ¬ a < b := by
  obtain ⟨c, h1, h2⟩ := qoQ a b
  rw [h1]
  rcases h2 with ⟨rfl, h⟩ | ⟨rfl, h⟩ | ⟨rfl, h⟩
  · simp [h]
  · subst h; simp
  · simp only [ge_iff_le]
    exact iff_of_true (by omega) (Rat.not_lt.2 (Rat.le_of_lt h))
section
variable (m0 : ByteArray) (m1 : Int) (m2 m3 : List (Int × Int)) (h0 : m0.size ≤ 1000000000000000000) (h2 : m2.length ≤ 1000000000000000000) (h3 : m3.length ≤ 1000000000000000000)
include h0 h2 h3
theorem qtP (x : Int) (l : List (Int × Int)) (hl : l.length ≤ 1000000000000000000) : ∃ o, Rl (fun k n => qaf k n m2 m3 x l l.length 0 m0 m1 m2 m3) o ∧
    (qfM l ∧ o = .inr (m2, m3, x, m0, m1, m2, m3) ∨ ¬ qfM l ∧ ∃ a : Bool × ByteArray × Int × List (Int × Int) × List (Int × Int) × Int × Int, a.1 = false ∧ o = .inl a) := by
  refine qpC l.length 0 (fun k n i => qaf k n m2 m3 x l l.length i m0 m1 m2 m3) (m2, m3, x, m0, m1, m2, m3) (fun a => a.1 = false) (fun j => okN (l.getD j (0, 0)).1 (l.getD j (0, 0)).2 = true) ?_ ?_ ?_ l.length 0 (by omega) (by omega)
  · refine Rl.up (f := fun k n => qaf k n m2 m3 x l l.length l.length m0 m1 m2 m3) (Rl.of 0 fun k n _ => ?_)
    show qcu k (qaf k n) _ _ _ _ _ _ _ _ _ _ = _
    unfold qcu
    exact if_neg (by simp)
  · intro i hs hi hok o ho
    refine Rl.up (f := fun k n => qaf k n m2 m3 x l l.length i m0 m1 m2 m3) ?_
    show Rl (fun k n => qcu k (qaf k n) _ _ _ _ _ _ _ _ _ _) _
    unfold qcu
    refine Rl.t (decide_eq_true (by omega)) (Rl.t (by omega) (Rl.at (getD_some (0, 0) (by omega)) (Rl.bind (qeX _ _) (Rl.f (by rw [Int.toNat_natCast, hok]; decide) ?_))))
    rw [qK (by omega)]
    exact ho
  · intro i hs hi hok
    refine ⟨(false, m0, m1, m2, m3, l.getD i (0, 0)), rfl, Rl.up (f := fun k n => qaf k n m2 m3 x l l.length i m0 m1 m2 m3) ?_⟩
    show Rl (fun k n => qcu k (qaf k n) _ _ _ _ _ _ _ _ _ _) _
    unfold qcu
    refine Rl.t (decide_eq_true (by omega)) (Rl.t (by omega) (Rl.at (getD_some (0, 0) (by rw [Int.toNat_natCast]; omega)) (Rl.bind (qeX _ _) (Rl.t (by rw [Int.toNat_natCast, Bool.eq_false_iff.2 hok]; decide) ?_))))
    rw [Int.toNat_natCast]
    exact Rl.pure _
theorem qzZ : ∃ o, Rl (fun k n => qaa k n m2 m3 0 m0 m1 m2 m3) o ∧
    ((qfM m2 ∧ qfM m3) ∧ o = .inr (m0, m1, m2, m3) ∨ ¬ (qfM m2 ∧ qfM m3) ∧ ∃ a : Bool × ByteArray × Int × List (Int × Int) × List (Int × Int) × Int × Int, a.1 = false ∧ o = .inl a) := by
  obtain ⟨o1, a1, a2⟩ := qtP m0 m1 m2 m3 h0 h2 h3 0 m2 h2
  obtain ⟨o2, b1, b2⟩ := qtP m0 m1 m2 m3 h0 h2 h3 1 m3 h3
  have up0 : ∀ {o}, Rl (fun k n => qdg k (qaa k n) m2 m3 0 m0 m1 m2 m3) o → Rl (fun k n => qaa k n m2 m3 0 m0 m1 m2 m3) o := fun h => Rl.up (f := fun k n => qaa k n m2 m3 0 m0 m1 m2 m3) h
  have up1 : ∀ {o}, Rl (fun k n => qdg k (qaa k n) m2 m3 1 m0 m1 m2 m3) o → Rl (fun k n => qaa k n m2 m3 1 m0 m1 m2 m3) o := fun h => Rl.up (f := fun k n => qaa k n m2 m3 1 m0 m1 m2 m3) h
  have s2 : Rl (fun k n => qaa k n m2 m3 2 m0 m1 m2 m3) (.inr (m0, m1, m2, m3)) := by
    refine Rl.up (f := fun k n => qaa k n m2 m3 2 m0 m1 m2 m3) ?_
    show Rl (fun k n => qdg k (qaa k n) m2 m3 2 m0 m1 m2 m3) _
    unfold qdg
    exact Rl.f (by decide) (Rl.pure _)
  unfold qdg at up0 up1
  rcases a2 with ⟨a2, rfl⟩ | ⟨a2, ⟨q1, q2, q3, q4, q5, q6, q7⟩, e, rfl⟩
  · rcases b2 with ⟨b2, rfl⟩ | ⟨b2, ⟨q1, q2, q3, q4, q5, q6, q7⟩, e, rfl⟩
    · exact ⟨_, up0 (Rl.t (by decide) (Rl.t rfl (Rl.bind a1.diag (up1 (Rl.t (by decide) (Rl.f (by decide) (Rl.t (by decide) (Rl.bind b1.diag s2)))))))), .inl ⟨⟨a2, b2⟩, rfl⟩⟩
    · exact ⟨_, up0 (Rl.t (by decide) (Rl.t rfl (Rl.bind a1.diag (up1 (Rl.t (by decide) (Rl.f (by decide) (Rl.t (by decide) (Rl.bind b1.diag (Rl.pure (Sum.inl (q1, q2, q3, q4, q5, q6, q7))))))))))), .inr ⟨fun h => b2 h.2, _, e, rfl⟩⟩
  · exact ⟨_, up0 (Rl.t (by decide) (Rl.t rfl (Rl.bind a1.diag (Rl.pure (Sum.inl (q1, q2, q3, q4, q5, q6, q7)))))), .inr ⟨fun h => a2 h.1, _, e, rfl⟩⟩
theorem qz0 (hv : qfM m3) (hlen : 1 ≤ m3.length) : ∃ o, Rl (fun k n => qR k n 1 m0 m1 m2 m3) o ∧
    ((∀ j, 1 ≤ j → j < m3.length → qbo m3 (j - 1) < qbo m3 j) ∧ o = .inr (m0, m1, m2, m3) ∨ (¬ ∀ j, 1 ≤ j → j < m3.length → qbo m3 (j - 1) < qbo m3 j) ∧ ∃ a : Bool × ByteArray × Int × List (Int × Int) × List (Int × Int), a.1 = false ∧ o = .inl a) := by
  have hc : ∀ i, 1 ≤ i → i < m3.length → Rn (fun k => qfa k (m3.getD (i - 1) (0, 0)).1 (m3.getD (i - 1) (0, 0)).2 (m3.getD i (0, 0)).1 (m3.getD i (0, 0)).2) (qie (qbo m3 (i - 1)) (qbo m3 i), 0) := by
    intro i h1 h2
    have := qwk (m3.getD (i - 1) (0, 0)).1 (m3.getD (i - 1) (0, 0)).2 (m3.getD i (0, 0)).1 (m3.getD i (0, 0)).2
    rw [if_pos ⟨hv (i - 1) (by omega) (by omega), hv i (by omega) h2⟩] at this
    exact this
  refine qpC m3.length 1 (fun k n i => qR k n i m0 m1 m2 m3) (m0, m1, m2, m3) (fun a => a.1 = false) (fun j => qbo m3 (j - 1) < qbo m3 j) ?_ ?_ ?_ (m3.length - 1) 1 (by omega) (by omega)
  · refine Rl.up (f := fun k n => qR k n m3.length m0 m1 m2 m3) (Rl.of 0 fun k n _ => ?_)
    show qbn k (qR k n) _ _ _ _ _ = _
    unfold qbn
    exact if_neg (by simp)
  · intro i hs hi hok o ho
    refine Rl.up (f := fun k n => qR k n i m0 m1 m2 m3) ?_
    show Rl (fun k n => qbn k (qR k n) _ _ _ _ _) _
    unfold qbn
    have e1 : (IntKind.i64.wrap ((i : Int) - 1)) = ((i - 1 : Nat) : Int) := by rw [qK (by omega)]; omega
    rw [e1]
    refine Rl.t (decide_eq_true (by omega)) (Rl.t (by omega) (Rl.at (getD_some (0, 0) (by rw [Int.toNat_natCast]; omega)) (Rl.t (by omega) (Rl.at (getD_some (0, 0) (by rw [Int.toNat_natCast]; omega)) ?_))))
    rw [Int.toNat_natCast, Int.toNat_natCast]
    refine Rl.bind (hc i hs hi) (Rl.f (by rw [decide_eq_true_eq, qhG]; exact fun h => h hok) ?_)
    rw [qK (by omega)]
    exact ho
  · intro i hs hi hok
    refine ⟨(false, m0, m1, m2, m3), rfl, Rl.up (f := fun k n => qR k n i m0 m1 m2 m3) ?_⟩
    show Rl (fun k n => qbn k (qR k n) _ _ _ _ _) _
    unfold qbn
    have e1 : (IntKind.i64.wrap ((i : Int) - 1)) = ((i - 1 : Nat) : Int) := by rw [qK (by omega)]; omega
    rw [e1]
    refine Rl.t (decide_eq_true (by omega)) (Rl.t (by omega) (Rl.at (getD_some (0, 0) (by rw [Int.toNat_natCast]; omega)) (Rl.t (by omega) (Rl.at (getD_some (0, 0) (by rw [Int.toNat_natCast]; omega)) ?_))))
    rw [Int.toNat_natCast, Int.toNat_natCast]
    exact Rl.bind (hc i hs hi) (Rl.t (by rw [decide_eq_true_eq, qhG]; exact hok) (Rl.pure _))
theorem qf8 : Rn (fun k => qbW k m0 m1 m2 m3) (okM m0 m1 m2 m3) := by
  refine Rn.up (f := fun k => qbW k m0 m1 m2 m3) ?_
  show Rn (fun k => qgx k m0 m1 m2 m3) _
  unfold qgx
  refine Rn.bind (qzY m0 h0) ?_
  by_cases hn : qfB m0 = true
  rotate_left
  · refine Rn.t (by simp [hn]) (Rn.const (congrArg some (qco (by simp [hn]))))
  refine Rn.f (by simp [hn]) ?_
  obtain ⟨o, a1, a2⟩ := qzZ m0 m1 m2 m3 h0 h2 h3
  refine Rn.bind a1.diag ?_
  rcases a2 with ⟨⟨g1, g2⟩, rfl⟩ | ⟨a2, ⟨q1, q2, q3, q4, q5, q6, q7⟩, e, rfl⟩
  rotate_left
  · exact Rn.const (congrArg some (qco (by simp only at e; subst e; simp only [Bool.false_eq_true, false_iff]; exact fun h => a2 ⟨h.2.gs, h.2.vs⟩)))
  show Rn (fun k => if (m1 == 115) = true then _ else if (m1 == 100) = true then _ else _) _
  by_cases k1 : m1 = 115
  · refine Rn.t (by rw [beq_iff_eq]; exact k1) ?_
    by_cases c1 : m2.length = 2
    · refine Rn.t (by rw [beq_iff_eq]; exact congrArg _ c1) (Rn.const (congrArg some (qco ?_)))
      rw [beq_iff_eq]
      constructor
      · intro h; have h : (m3.length : Int) = 1 := h; exact ⟨hn, g1, g2, .inl ⟨k1, c1, by omega⟩⟩
      · rintro ⟨_, h⟩; show (m3.length : Int) = 1; have := h.kind; omega
    · refine Rn.f (by rw [beq_iff_eq]; show ¬ (m2.length : Int) = 2; omega) (Rn.const (congrArg some (qco ?_)))
      simp only [Bool.false_eq_true, false_iff]
      rintro ⟨_, h⟩; have := h.kind; omega
  refine Rn.f (by rw [beq_iff_eq]; exact k1) ?_
  by_cases k2 : m1 = 100
  rotate_left
  · refine Rn.f (by rw [beq_iff_eq]; exact k2) (Rn.const (congrArg some (qco ?_)))
    simp only [Bool.false_eq_true, false_iff]
    rintro ⟨_, h⟩; have := h.kind; omega
  refine Rn.t (by rw [beq_iff_eq]; exact k2) ?_
  by_cases c1 : m2.length < 1
  · refine Rn.f (by rw [decide_eq_false_iff_not]; show ¬ ¬ (m2.length : Int) < 1; omega) (Rn.const (congrArg some (qco ?_)))
    simp only [Bool.false_eq_true, false_iff]
    rintro ⟨_, h⟩; have := h.kind; omega
  refine Rn.t (by rw [decide_eq_false_iff_not]; show ¬ (m2.length : Int) < 1; omega) ?_
  by_cases c2 : m2.length > 4
  · refine Rn.f (by rw [decide_eq_false_iff_not]; show ¬ ¬ (m2.length : Int) > 4; omega) (Rn.const (congrArg some (qco ?_)))
    simp only [Bool.false_eq_true, false_iff]
    rintro ⟨_, h⟩; have := h.kind; omega
  refine Rn.t (by rw [decide_eq_false_iff_not]; show ¬ (m2.length : Int) > 4; omega) ?_
  have e1 : (IntKind.i64.wrap ((m2.length : Int) - 1)) = (m2.length : Int) - 1 := qK (by omega)
  by_cases c3 : m3.length + 1 = m2.length
  rotate_left
  · refine Rn.t (by rw [bne_iff_ne, ne_eq]; show ¬ (m3.length : Int) = IntKind.i64.wrap ((m2.length : Int) - 1); rw [e1]; omega) (Rn.const (congrArg some (qco ?_)))
    simp only [Bool.false_eq_true, false_iff]
    rintro ⟨_, h⟩; have := h.kind; omega
  refine Rn.f (by rw [bne_iff_ne, ne_eq]; show ¬ ¬ (m3.length : Int) = IntKind.i64.wrap ((m2.length : Int) - 1); rw [e1]; omega) ?_
  by_cases c4 : m3.length = 0
  · have hz : Rl (fun k n => qR k n 1 m0 m1 m2 m3) (.inr (m0, m1, m2, m3)) := by
      refine Rl.up (f := fun k n => qR k n 1 m0 m1 m2 m3) (Rl.of 0 fun k n _ => ?_)
      show qbn k (qR k n) _ _ _ _ _ = _
      unfold qbn
      exact if_neg (by rw [decide_eq_true_eq]; omega)
    exact Rn.bind hz.diag (Rn.const (congrArg some (qco (iff_of_true rfl ⟨hn, g1, g2, .inr ⟨k2, by omega, by omega, c3, fun j j1 j2 => by omega⟩⟩))))
  obtain ⟨o, b1, b2⟩ := qz0 m0 m1 m2 m3 h0 h2 h3 g2 (by omega)
  refine Rn.bind b1.diag ?_
  rcases b2 with ⟨b2, rfl⟩ | ⟨b2, ⟨q1, q2, q3, q4, q5⟩, e, rfl⟩
  · exact Rn.const (congrArg some (qco (iff_of_true rfl ⟨hn, g1, g2, .inr ⟨k2, by omega, by omega, c3, b2⟩⟩)))
  · refine Rn.const (congrArg some (qco ?_))
    simp only at e
    subst e
    simp only [Bool.false_eq_true, false_iff]
    rintro ⟨_, h⟩
    rcases h.kind with k | k
    · omega
    · exact b2 k.2.2.2.2
end
end Go.Proofs.YtbhnafdmilfobaaGreat.Am

/- qp reckoning: the reference's right models; knots. -/
set_option linter.unusedVariables false
set_option linter.unusedSectionVars false
set_option linter.unusedSimpArgs false
set_option maxRecDepth 10000
namespace Go.Proofs.YtbhnafdmilfobaaGreat.Am
open Go
theorem qmu {x0 x2 y0 y2 : Bool} {x1 x3 y1 y3 : List Int} {x y : Rat} (hx : FrU x0 x1 x2 x3 x) (hy : FrU y0 y1 y2 y3 y) (l1 : x1.length ≤ 10000) (l3 : x3.length ≤ 10000) (m1 : y1.length ≤ 10000) (m3 : y3.length ≤ 10000) :
    Rn (fun k => qaB k x0 x1 x2 x3 y0 y1 y2 y3) (qie x y) := by
  obtain ⟨s1, n1, a1, a2, a3⟩ := qdA x0 y2 x1 y3 hx.1 hy.2 (by omega) (by omega)
  obtain ⟨s2, n2, b1, b2, b3⟩ := qdA y0 x2 y1 x3 hy.1 hx.2 (by omega) (by omega)
  exact Rn.up (f := fun k => qaB k x0 x1 x2 x3 y0 y1 y2 y3) (Rn.bind a1 (Rn.bind b1 (Rn.bind (qtJ s1 s2 n1 n2 a2 b2 (by omega) (by omega)) (Rn.pure _))))
section
variable (m0 : ByteArray) (m1 : Int) (m2 m3 : List (Int × Int)) (h0 : m0.size ≤ 1000000000000000000) (h2 : m2.length ≤ 1000000000000000000) (h3 : m3.length ≤ 1000000000000000000)
include h0 h2 h3
theorem qya : ∃ o, Rl (fun k n => qM k n 0 m0 m1 m2 m3) o ∧
    (qfM m2 ∧ o = .inr (m0, m1, m2, m3) ∨ ¬ qfM m2 ∧ ∃ a : Bool × ByteArray × Int × List (Int × Int) × List (Int × Int), a.1 = false ∧ o = .inl a) := by
  refine qpC m2.length 0 (fun k n i => qM k n i m0 m1 m2 m3) (m0, m1, m2, m3) (fun a => a.1 = false) (fun j => okN (m2.getD j (0, 0)).1 (m2.getD j (0, 0)).2 = true) ?_ ?_ ?_ m2.length 0 (by omega) (by omega)
  · refine Rl.up (f := fun k n => qM k n m2.length m0 m1 m2 m3) (Rl.of 0 fun k n _ => ?_)
    show qa5 k (qM k n) _ _ _ _ _ = _
    unfold qa5
    exact if_neg (by simp)
  · intro i hs hi hok o ho
    refine Rl.up (f := fun k n => qM k n i m0 m1 m2 m3) ?_
    show Rl (fun k n => qa5 k (qM k n) _ _ _ _ _) _
    unfold qa5
    refine Rl.t (decide_eq_true (by omega)) (Rl.t (by omega) (Rl.at (getD_some (0, 0) (by omega)) (Rl.bind (qfV _ _) (Rl.f (by rw [Int.toNat_natCast, hok]; decide) ?_))))
    rw [qK (by omega)]
    exact ho
  · intro i hs hi hok
    refine ⟨(false, m0, m1, m2, m3), rfl, Rl.up (f := fun k n => qM k n i m0 m1 m2 m3) ?_⟩
    show Rl (fun k n => qa5 k (qM k n) _ _ _ _ _) _
    unfold qa5
    exact Rl.t (decide_eq_true (by omega)) (Rl.t (by omega) (Rl.at (getD_some (0, 0) (by rw [Int.toNat_natCast]; omega)) (Rl.bind (qfV _ _) (Rl.t (by rw [Int.toNat_natCast, Bool.eq_false_iff.2 hok]; decide) (Rl.pure _)))))
theorem qyb : ∃ o, Rl (fun k n => qN k n 0 m0 m1 m2 m3) o ∧
    ((∀ j, 0 ≤ j → j < m3.length → okN (m3.getD j (0, 0)).1 (m3.getD j (0, 0)).2 = true ∧ (m1 = 100 → 1 ≤ j → qbo m3 (j - 1) < qbo m3 j)) ∧ o = .inr (m0, m1, m2, m3) ∨
     (¬ ∀ j, 0 ≤ j → j < m3.length → okN (m3.getD j (0, 0)).1 (m3.getD j (0, 0)).2 = true ∧ (m1 = 100 → 1 ≤ j → qbo m3 (j - 1) < qbo m3 j)) ∧ ∃ a : Bool × ByteArray × Int × List (Int × Int) × List (Int × Int), a.1 = false ∧ o = .inl a) := by
  have hh : ∀ i, 1 ≤ i → i < m3.length → okN (m3.getD (i - 1) (0, 0)).1 (m3.getD (i - 1) (0, 0)).2 = true → okN (m3.getD i (0, 0)).1 (m3.getD i (0, 0)).2 = true →
      ∃ s p t r s' p' t' r', Rn (fun k => qaJ k (m3.getD (i - 1) (0, 0)).1 (m3.getD (i - 1) (0, 0)).2) (s, p, t, r) ∧ Rn (fun k => qaJ k (m3.getD i (0, 0)).1 (m3.getD i (0, 0)).2) (s', p', t', r') ∧
        Rn (fun k => qaB k s p t r s' p' t' r') (qie (qbo m3 (i - 1)) (qbo m3 i)) := by
    intro i i1 i2 g1 g2
    obtain ⟨s, p, t, r, a1, a2, a3, a4⟩ := qhF g1
    obtain ⟨s', p', t', r', b1, b2, b3, b4⟩ := qhF g2
    exact ⟨s, p, t, r, s', p', t', r', a1, b1, qmu a2 b2 (by omega) (by omega) (by omega) (by omega)⟩
  refine qJf m3.length 0 (fun k n i => qN k n i m0 m1 m2 m3) (m0, m1, m2, m3) (fun a => a.1 = false) (fun j => okN (m3.getD j (0, 0)).1 (m3.getD j (0, 0)).2 = true ∧ (m1 = 100 → 1 ≤ j → qbo m3 (j - 1) < qbo m3 j)) ?_ ?_ ?_ m3.length 0 (by omega) (by omega) (fun j _ h => absurd h (by omega))
  · refine Rl.up (f := fun k n => qN k n m3.length m0 m1 m2 m3) (Rl.of 0 fun k n _ => ?_)
    show qa6 k (qN k n) _ _ _ _ _ = _
    unfold qa6
    exact if_neg (by simp)
  · intro i hs hi hp hok o ho
    refine Rl.up (f := fun k n => qN k n i m0 m1 m2 m3) ?_
    show Rl (fun k n => qa6 k (qN k n) _ _ _ _ _) _
    unfold qa6
    have hg := getD_some (0, 0) hi
    refine Rl.t (decide_eq_true (by omega)) (Rl.t (by omega) ?_)
    rw [Int.toNat_natCast]
    refine Rl.at hg (Rl.bind (qfV _ _) (Rl.f (by rw [hok.1]; decide) ?_))
    have e2 : (IntKind.i64.wrap ((i : Int) + 1)) = (i : Int) + 1 := qK (by omega)
    rw [e2]
    by_cases k1 : m1 = 100
    · refine Rl.t (by rw [beq_iff_eq]; exact k1) ?_
      by_cases k2 : 1 ≤ i
      · have e1 : (IntKind.i64.wrap ((i : Int) - 1)) = ((i - 1 : Nat) : Int) := by rw [qK (by omega)]; omega
        rw [e1, Int.toNat_natCast]
        obtain ⟨s, p, t, r, s', p', t', r', c1, c2, c3⟩ := hh i k2 hi (hp (i - 1) (by omega) (by omega)).1 hok.1
        exact Rl.t (decide_eq_true (by omega)) (Rl.t (by omega) (Rl.at (getD_some (0, 0) (by omega)) (Rl.bind c1 (Rl.t (by omega) (Rl.at hg (Rl.bind c2 (Rl.bind c3 (Rl.f (by rw [decide_eq_true_eq, qhG]; exact fun h => h (hok.2 k1 k2)) ho))))))))
      · exact Rl.f (by rw [decide_eq_true_eq]; omega) ho
    · exact Rl.f (by rw [beq_iff_eq]; exact k1) ho
  · intro i hs hi hp hok
    refine ⟨(false, m0, m1, m2, m3), rfl, Rl.up (f := fun k n => qN k n i m0 m1 m2 m3) ?_⟩
    show Rl (fun k n => qa6 k (qN k n) _ _ _ _ _) _
    unfold qa6
    have hg := getD_some (0, 0) hi
    refine Rl.t (decide_eq_true (by omega)) (Rl.t (by omega) ?_)
    rw [Int.toNat_natCast]
    refine Rl.at hg (Rl.bind (qfV _ _) ?_)
    by_cases k0 : okN (m3.getD i (0, 0)).1 (m3.getD i (0, 0)).2 = true
    rotate_left
    · exact Rl.t (by rw [Bool.eq_false_iff.2 k0]; decide) (Rl.pure _)
    refine Rl.f (by rw [k0]; decide) ?_
    have k1 : m1 = 100 := Classical.byContradiction fun k1 => hok ⟨k0, fun h => absurd h k1⟩
    have k2 : 1 ≤ i := Classical.byContradiction fun k2 => hok ⟨k0, fun _ h => absurd h k2⟩
    have k3 : ¬ qbo m3 (i - 1) < qbo m3 i := fun h => hok ⟨k0, fun _ _ => h⟩
    refine Rl.t (by rw [beq_iff_eq]; exact k1) ?_
    have e1 : (IntKind.i64.wrap ((i : Int) - 1)) = ((i - 1 : Nat) : Int) := by rw [qK (by omega)]; omega
    rw [e1, Int.toNat_natCast]
    obtain ⟨s, p, t, r, s', p', t', r', c1, c2, c3⟩ := hh i k2 hi (hp (i - 1) (by omega) (by omega)).1 k0
    exact Rl.t (decide_eq_true (by omega)) (Rl.t (by omega) (Rl.at (getD_some (0, 0) (by omega)) (Rl.bind c1 (Rl.t (by omega) (Rl.at hg (Rl.bind c2 (Rl.bind c3 (Rl.t (by rw [decide_eq_true_eq, qhG]; exact k3) (Rl.pure _)))))))))
theorem qg7 : Rn (fun k => qaG k m0 m1 m2 m3) (okM m0 m1 m2 m3) := by
  refine Rn.up (f := fun k => qaG k m0 m1 m2 m3) ?_
  show Rn (fun k => qeN k m0 m1 m2 m3) _
  unfold qeN
  refine Rn.bind (qx9 m0 h0) ?_
  by_cases hn : qfB m0 = true
  rotate_left
  · refine Rn.t (by simp [hn]) (Rn.const (congrArg some (qco (by simp [hn]))))
  refine Rn.f (by simp [hn]) ?_
  obtain ⟨o, a1, a2⟩ := qya m0 m1 m2 m3 h0 h2 h3
  refine Rn.bind a1.diag ?_
  rcases a2 with ⟨g1, rfl⟩ | ⟨a2, ⟨q1, q2, q3, q4, q5⟩, e, rfl⟩
  rotate_left
  · exact Rn.const (congrArg some (qco (by simp only at e; subst e; simp only [Bool.false_eq_true, false_iff]; exact fun h => a2 h.2.gs)))
  obtain ⟨o, b1, b2⟩ := qyb m0 m1 m2 m3 h0 h2 h3
  refine Rn.bind b1.diag ?_
  rcases b2 with ⟨g2, rfl⟩ | ⟨a2, ⟨q1, q2, q3, q4, q5⟩, e, rfl⟩
  rotate_left
  · refine Rn.const (congrArg some (qco ?_))
    simp only at e
    subst e
    simp only [Bool.false_eq_true, false_iff]
    rintro ⟨_, h⟩
    refine a2 fun j _ j2 => ⟨h.vs j (by omega) j2, fun k1 j1 => ?_⟩
    rcases h.kind with k | k
    · omega
    · exact k.2.2.2.2 j j1 j2
  have g3 : qfM m3 := fun j j1 j2 => (g2 j j1 j2).1
  show Rn (fun k => if (m1 == 115) = true then _ else if (m1 == 100) = true then _ else _) _
  by_cases k1 : m1 = 115
  · refine Rn.t (by rw [beq_iff_eq]; exact k1) ?_
    by_cases c1 : m2.length = 2
    · refine Rn.t (by rw [beq_iff_eq]; exact congrArg _ c1) (Rn.const (congrArg some (qco ?_)))
      rw [beq_iff_eq]
      constructor
      · intro h; have h : (m3.length : Int) = 1 := h; exact ⟨hn, g1, g3, .inl ⟨k1, c1, by omega⟩⟩
      · rintro ⟨_, h⟩; show (m3.length : Int) = 1; have := h.kind; omega
    · refine Rn.f (by rw [beq_iff_eq]; show ¬ (m2.length : Int) = 2; omega) (Rn.const (congrArg some (qco ?_)))
      simp only [Bool.false_eq_true, false_iff]
      rintro ⟨_, h⟩; have := h.kind; omega
  refine Rn.f (by rw [beq_iff_eq]; exact k1) ?_
  by_cases k2 : m1 = 100
  rotate_left
  · refine Rn.f (by rw [beq_iff_eq]; exact k2) (Rn.const (congrArg some (qco ?_)))
    simp only [Bool.false_eq_true, false_iff]
    rintro ⟨_, h⟩; have := h.kind; omega
  refine Rn.t (by rw [beq_iff_eq]; exact k2) ?_
  by_cases c1 : m2.length < 1
  · refine Rn.f (by rw [decide_eq_true_eq]; show ¬ (m2.length : Int) ≥ 1; omega) (Rn.const (congrArg some (qco ?_)))
    simp only [Bool.false_eq_true, false_iff]
    rintro ⟨_, h⟩; have := h.kind; omega
  refine Rn.t (decide_eq_true (show (m2.length : Int) ≥ 1 by omega)) ?_
  by_cases c2 : m2.length > 4
  · refine Rn.f (by rw [decide_eq_true_eq]; show ¬ (m2.length : Int) ≤ 4; omega) (Rn.const (congrArg some (qco ?_)))
    simp only [Bool.false_eq_true, false_iff]
    rintro ⟨_, h⟩; have := h.kind; omega
  refine Rn.t (decide_eq_true (show (m2.length : Int) ≤ 4 by omega)) (Rn.const (congrArg some (qco ?_)))
  have e1 : (IntKind.i64.wrap ((m3.length : Int) + 1)) = (m3.length : Int) + 1 := qK (by omega)
  rw [beq_iff_eq]
  show IntKind.i64.wrap ((m3.length : Int) + 1) = (m2.length : Int) ↔ _
  rw [e1]
  constructor
  · intro h; exact ⟨hn, g1, g3, .inr ⟨k2, by omega, by omega, by omega, fun j j1 j2 => (g2 j (by omega) j2).2 k2 j1⟩⟩
  · rintro ⟨_, h⟩; have := h.kind; omega
noncomputable def qed (k1 : Int) : Int := if okM m0 m1 m2 m3 = true then (if 0 ≤ k1 ∧ k1 < m2.length then 0 else 111) else 50
omit h0 h2 h3 in
theorem qhH {k1 : Int} (h : ¬ okM m0 m1 m2 m3 = true) : qed m0 m1 m2 m3 k1 = 50 := if_neg h
omit h0 h2 h3 in
theorem qfO {k1 : Int} (h : okM m0 m1 m2 m3 = true) (h1 : ¬ (0 ≤ k1 ∧ k1 < m2.length)) : qed m0 m1 m2 m3 k1 = 111 := by unfold qed; rw [if_pos h, if_neg h1]
omit h0 h2 h3 in
theorem qhI {k1 : Int} (h : okM m0 m1 m2 m3 = true) (h1 : 0 ≤ k1 ∧ k1 < m2.length) : qed m0 m1 m2 m3 k1 = 0 := by unfold qed; rw [if_pos h, if_pos h1]
theorem qf5 (k1 : Int) : Rn (fun k => qdw k m0 m1 m2 m3 k1) (qed m0 m1 m2 m3 k1) := by
  refine Rn.up (f := fun k => qdw k m0 m1 m2 m3 k1) (Rn.bind (qf8 m0 m1 m2 m3 h0 h2 h3) ?_)
  by_cases h : okM m0 m1 m2 m3 = true
  · refine Rn.f (by rw [h]; decide) ?_
    by_cases h1 : k1 < 0
    · rw [qfO m0 m1 m2 m3 h (by omega)]
      exact Rn.f (by rw [decide_eq_false_iff_not]; omega) (Rn.pure _)
    · refine Rn.t (by rw [decide_eq_false_iff_not]; omega) ?_
      by_cases h4 : k1 ≥ m2.length
      · rw [qfO m0 m1 m2 m3 h (by omega)]
        exact Rn.t (decide_eq_true h4) (Rn.pure _)
      · rw [qhI m0 m1 m2 m3 h (by omega)]
        exact Rn.f (by rw [decide_eq_true_eq]; exact h4) (Rn.pure _)
  · rw [qhH m0 m1 m2 m3 h]
    exact Rn.t (by simp [h]) (Rn.pure _)
theorem qfC (k1 : Int) : Rn (fun k => qbQ k m0 m1 m2 m3 k1) (qed m0 m1 m2 m3 k1) := by
  refine Rn.up (f := fun k => qbQ k m0 m1 m2 m3 k1) (Rn.bind (qg7 m0 m1 m2 m3 h0 h2 h3) ?_)
  have e1 : (IntKind.i64.wrap ((m2.length : Int) - 1)) = (m2.length : Int) - 1 := qK (by omega)
  by_cases h : okM m0 m1 m2 m3 = true
  · refine Rn.f (by rw [h]; decide) ?_
    by_cases h1 : k1 < 0
    · rw [qfO m0 m1 m2 m3 h (by omega)]
      exact Rn.f (by rw [decide_eq_false_iff_not]; omega) (Rn.pure _)
    · refine Rn.t (by rw [decide_eq_false_iff_not]; omega) ?_
      rw [e1]
      by_cases h4 : k1 ≥ m2.length
      · rw [qfO m0 m1 m2 m3 h (by omega)]
        exact Rn.t (decide_eq_true (by omega)) (Rn.pure _)
      · rw [qhI m0 m1 m2 m3 h (by omega)]
        exact Rn.f (by rw [decide_eq_true_eq]; omega) (Rn.pure _)
  · rw [qhH m0 m1 m2 m3 h]
    exact Rn.t (by simp [h]) (Rn.pure _)
end
def qaW (m3 : List (Int × Int)) (j : Nat) : Rat := qbo m3 j * Rat.divInt 1000000000 1
theorem qgT {m e : Int} (h : okN m e = true) : ∃ s p t r, Rn (fun k => qaL k m e) (s, p, t, r) ∧ Fr s p t r (qfL m e) ∧ p.length ≤ 2 ∧ r.length ≤ 2 := by
  obtain ⟨s, p, t, r, a1, a2, a3, a4⟩ := qx5 h
  obtain ⟨s1, p1, t1, r1, b1, b2, b3, b4⟩ := qzX a2 (by omega) (by omega)
  exact ⟨s1, p1, t1, r1, Rn.up (f := fun k => qaL k m e) (Rn.bind a1 (Rn.bind b1 (Rn.pure _))), b2, by omega, by omega⟩
section
variable {m0 : ByteArray} {m1 : Int} {m2 m3 : List (Int × Int)} (hv : qfM m3)
include hv
theorem qpD {k1 : Int} (h : 0 ≤ k1 ∧ k1 < m3.length) : ∃ s p t r, Rn (fun k => qbJ k m0 m1 m2 m3 k1) (s, p, t, r) ∧ Fr s p t r (qaW m3 k1.toNat) ∧ p.length ≤ 4 ∧ r.length ≤ 4 := by
  obtain ⟨s, p, t, r, a1, a2, a3, a4⟩ := qgT (hv k1.toNat (by omega) (by omega))
  obtain ⟨s1, p1, t1, r1, b1, b2, b3, b4⟩ := qwi 1000000000 1 (by omega) (by omega) (by omega)
  obtain ⟨s2, p2, t2, r2, c1, c2, c3, c4⟩ := qzO a2 b2 (by omega) (by omega) (by omega) (by omega) false false
  exact ⟨s2, p2, t2, r2, Rn.up (f := fun k => qbJ k m0 m1 m2 m3 k1) (Rn.t h.1 (Rn.at (getD_some (0, 0) (by omega)) (Rn.bind a1 (Rn.bind b1 (Rn.bind c1 (Rn.pure _)))))), c2, by omega, by omega⟩
theorem qmv {k1 : Int} (h : 0 ≤ k1 ∧ k1 < m3.length) : ∃ s p t r, Rn (fun k => qaP k m0 m1 m2 m3 k1) (s, p, t, r) ∧ FrU s p t r (qaW m3 k1.toNat) ∧ p.length ≤ 100 ∧ r.length ≤ 100 := by
  obtain ⟨s, p, t, r, a1, a2, a3, a4⟩ := qhF (hv k1.toNat (by omega) (by omega))
  obtain ⟨s1, p1, t1, r1, b1, b2, b3, b4⟩ := qwm 1000000000 (by decide)
  obtain ⟨s2, p2, t2, r2, c1, c2, c3, c4⟩ := qjG a2 b2 (by omega) (by omega) (by omega) (by omega)
  have hB : Rn (fun k => qbV k s p t r) (s2, p2, t2, r2) := Rn.up (f := fun k => qbV k s p t r) (Rn.bind b1 (Rn.bind c1 (Rn.pure _)))
  exact ⟨s2, p2, t2, r2, Rn.up (f := fun k => qaP k m0 m1 m2 m3 k1) (Rn.t h.1 (Rn.at (getD_some (0, 0) (by omega)) (Rn.bind a1 (Rn.bind hB (Rn.pure _))))), c2, by omega, by omega⟩
end
end Go.Proofs.YtbhnafdmilfobaaGreat.Am

/- qp reckoning: on which side of a segment a voltage lies; the segment that holds it. -/
set_option linter.unusedVariables false
set_option linter.unusedSectionVars false
set_option linter.unusedSimpArgs false
set_option maxRecDepth 10000
namespace Go.Proofs.YtbhnafdmilfobaaGreat.Am
open Go
theorem qls {a b : Rat} : qie a b < 0 ↔ a < b := by
  have := qhG (a := a) (b := b)
  constructor
  · intro h; exact Classical.byContradiction fun k => absurd (this.2 k) (by omega)
  · intro h; exact Classical.byContradiction fun k => absurd h (this.1 (by omega))
theorem qlt {a b : Rat} : qie a b > 0 ↔ b < a := by
  obtain ⟨c, h1, h2⟩ := qoQ a b
  rw [h1]
  rcases h2 with ⟨rfl, h⟩ | ⟨rfl, h⟩ | ⟨rfl, h⟩
  · exact iff_of_false (by decide) (Rat.not_lt.2 (Rat.le_of_lt h))
  · subst h; exact iff_of_false (by decide) (Rat.not_lt.2 Rat.le_refl)
  · exact iff_of_true (by decide) h
def qe0 (m3 : List (Int × Int)) (j : Nat) (u : Rat) : Int := if 0 < j ∧ u < qaW m3 (j - 1) then -1 else if j < m3.length ∧ qaW m3 j < u then 1 else 0
def upK (u : Rat) : List (Int × Int) → Nat
  | [] => 0
  | x :: l => if qfL x.1 x.2 * Rat.divInt 1000000000 1 < u then upK u l + 1 else 0
theorem qoV (u : Rat) : ∀ l : List (Int × Int), upK u l ≤ l.length
  | [] => Nat.le_refl _
  | x :: l => by have := qoV u l; unfold upK; split <;> simp <;> omega
theorem qgU (u : Rat) : ∀ (l : List (Int × Int)) (j : Nat), j < upK u l → qaW l j < u
  | [], j, h => absurd h (by simp [upK])
  | x :: l, j, h => by
    unfold upK at h
    split at h
    · cases j with
      | zero => simpa [qaW, qbo] using ‹_›
      | succ j => simpa [qaW, qbo] using qgU u l j (by omega)
    · omega
theorem qwo (u : Rat) : ∀ l : List (Int × Int), upK u l < l.length → ¬ qaW l (upK u l) < u
  | [], h => absurd h (by simp)
  | x :: l, h => by
    unfold upK at h ⊢
    split at h
    · rename_i g
      rw [if_pos g]
      simpa [qaW, qbo] using qwo u l (by simpa using h)
    · rename_i g
      rw [if_neg g]
      simpa [qaW, qbo] using g
theorem qoW {m3 : List (Int × Int)} {u : Rat} {j : Nat} (h : j < upK u m3) : qe0 m3 j u = 1 := by
  have := qoV u m3
  unfold qe0
  rw [if_neg, if_pos ⟨by omega, qgU u m3 j h⟩]
  rintro ⟨h1, h2⟩
  exact Rat.not_lt.2 (Rat.le_of_lt (qgU u m3 (j - 1) (by omega))) h2
theorem qtQ (m3 : List (Int × Int)) (u : Rat) : qe0 m3 (upK u m3) u = 0 := by
  unfold qe0
  rw [if_neg, if_neg]
  · rintro ⟨h1, h2⟩
    exact qwo u m3 h1 h2
  · rintro ⟨h1, h2⟩
    exact Rat.not_lt.2 (Rat.le_of_lt (qgU u m3 (upK u m3 - 1) (by omega))) h2
section
variable {m0 : ByteArray} {m1 : Int} {m2 m3 : List (Int × Int)} (h0 : m0.size ≤ 1000000000000000000) (h2 : m2.length ≤ 1000000000000000000) (h3 : m3.length ≤ 1000000000000000000)
theorem OkM.vlen {m1 : Int} {m2 m3 : List (Int × Int)} (h : OkM m1 m2 m3) : m3.length + 1 = m2.length ∧ m2.length ≤ 4 := by have := h.kind; omega
include h0 h2 h3
section
variable {u0 u2 : Bool} {u1 u3 : List Int}
theorem qpT {k1 : Int} (h : qed m0 m1 m2 m3 k1 ≠ 0) : Rn (fun k => qaU k m0 m1 m2 m3 k1 u0 u1 u2 u3) (0, qed m0 m1 m2 m3 k1) :=
  Rn.up (f := fun k => qaU k m0 m1 m2 m3 k1 u0 u1 u2 u3) (Rn.bind (qf5 m0 m1 m2 m3 h0 h2 h3 k1) (Rn.t (by rw [bne_iff_ne]; exact h) (Rn.pure _)))
theorem qvg {k1 : Int} (h : qed m0 m1 m2 m3 k1 ≠ 0) : Rn (fun k => qaS k m0 m1 m2 m3 k1 u0 u1 u2 u3) (0, qed m0 m1 m2 m3 k1) :=
  Rn.up (f := fun k => qaS k m0 m1 m2 m3 k1 u0 u1 u2 u3) (Rn.bind (qfC m0 m1 m2 m3 h0 h2 h3 k1) (Rn.f (by rw [beq_iff_eq]; exact h) (Rn.t (by rw [bne_iff_ne]; exact h) (Rn.pure _))))
section
variable (la : u1.length ≤ 9223372036854775807) (lb : u3.length ≤ 9223372036854775807) (da : Dg W u1) (db : Dg W u3)
include la lb da db
theorem qpU {k1 : Int} (h : qed m0 m1 m2 m3 k1 = 0) (hf : qcz u0 u1 u2 u3 ≠ 0) : Rn (fun k => qaU k m0 m1 m2 m3 k1 u0 u1 u2 u3) (0, qcz u0 u1 u2 u3) :=
  Rn.up (f := fun k => qaU k m0 m1 m2 m3 k1 u0 u1 u2 u3) (Rn.bind (qf5 m0 m1 m2 m3 h0 h2 h3 k1) (Rn.f (by rw [h]; decide) (Rn.bind (qlF la lb da db) (Rn.t (by rw [bne_iff_ne]; exact hf) (Rn.pure _)))))
theorem qvh {k1 : Int} (h : qed m0 m1 m2 m3 k1 = 0) (hf : qcz u0 u1 u2 u3 ≠ 0) : Rn (fun k => qaS k m0 m1 m2 m3 k1 u0 u1 u2 u3) (0, qcz u0 u1 u2 u3) :=
  Rn.up (f := fun k => qaS k m0 m1 m2 m3 k1 u0 u1 u2 u3) (Rn.bind (qfC m0 m1 m2 m3 h0 h2 h3 k1) (Rn.t (by rw [h]; decide) (Rn.bind (qfU la lb da db) (Rn.t (by rw [bne_iff_ne]; exact hf) (Rn.pure _)))))
end
section
variable {u : Rat} (hu : Fr u0 u1 u2 u3 u) (l1 : u1.length ≤ 72) (l3 : u3.length ≤ 72) (hm : okM m0 m1 m2 m3 = true)
include hu l1 l3 hm
theorem qpE {k1 : Int} (hk : 0 ≤ k1 ∧ k1 < m2.length) : Rn (fun k => qaU k m0 m1 m2 m3 k1 u0 u1 u2 u3) (qe0 m3 k1.toNat u, 0) := by
  have hM := (qfN.1 hm).2
  have hl := hM.vlen
  refine Rn.up (f := fun k => qaU k m0 m1 m2 m3 k1 u0 u1 u2 u3) ?_
  show Rn (fun k => qg2 k m0 m1 m2 m3 k1 u0 u1 u2 u3) _
  unfold qg2
  have hc := qf5 m0 m1 m2 m3 h0 h2 h3 k1
  rw [qhI m0 m1 m2 m3 hm hk] at hc
  have hf := qlF (n0 := u0) (d0 := u2) (show u1.length ≤ 9223372036854775807 by omega) (show u3.length ≤ 9223372036854775807 by omega) hu.1.c.1 hu.2.c.1
  rw [qx3 hu l1 l3] at hf
  refine Rn.bind hc (Rn.f (by decide) (Rn.bind hf (Rn.f (by decide) (Rn.bind (qzV hu (by omega) (by omega)) ?_))))
  have e1 : IntKind.i64.wrap (k1 - 1) = k1 - 1 := qK (by omega)
  have e2 : (k1 - 1).toNat = k1.toNat - 1 := by omega
  rw [e1]
  have n1 : u1.length ≤ 100000 := by omega
  have n3 : u3.length ≤ 100000 := by omega
  have up : ∀ x0 x1 x2 x3, (x0, x1, x2, x3) = (u0, u1, u2, u3) → Rn (fun k => if decide (k1 < (m3.length : Int)) = true then Option.bind (qbJ k m0 m1 m2 m3 k1) fun r9 => Option.bind (qaO k x0 x1 x2 x3 r9.1 r9.2.1 r9.2.2.1 r9.2.2.2) fun r10 => if decide (r10.1 > 0) = true then some ((1 : Int), (0 : Int)) else some (0, 0) else some (0, 0)) (if k1.toNat < m3.length ∧ qaW m3 k1.toNat < u then 1 else 0, 0) := by
    intro x0 x1 x2 x3 e
    cases e
    have q1 : k1.toNat < m3.length ∧ qaW m3 k1.toNat < u → (if k1.toNat < m3.length ∧ qaW m3 k1.toNat < u then (1 : Int) else 0) = 1 := fun h => if_pos h
    have q2 : ¬ (k1.toNat < m3.length ∧ qaW m3 k1.toNat < u) → (if k1.toNat < m3.length ∧ qaW m3 k1.toNat < u then (1 : Int) else 0) = 0 := fun h => if_neg h
    by_cases c1 : k1 < m3.length
    · obtain ⟨s, p, t, r, a1, a2, a3, a4⟩ := qpD hM.vs (k1 := k1) (m0 := m0) (m1 := m1) (m2 := m2) ⟨hk.1, c1⟩
      have n5 : p.length ≤ 100000 := by omega
      have n6 : r.length ≤ 100000 := by omega
      refine Rn.t (decide_eq_true c1) (Rn.bind a1 (Rn.bind (qpz hu a2 n1 n3 n5 n6) ?_))
      by_cases c2 : qaW m3 k1.toNat < u
      · rw [q1 ⟨by omega, c2⟩]
        exact Rn.t (by rw [decide_eq_true_eq]; exact qlt.2 c2) (Rn.pure _)
      · rw [q2 fun h => c2 h.2]
        exact Rn.f (by rw [decide_eq_true_eq]; exact fun h => c2 (qlt.1 h)) (Rn.pure _)
    · rw [q2 fun h => c1 (by omega)]
      exact Rn.f (by rw [decide_eq_true_eq]; exact c1) (Rn.pure _)
  by_cases c0 : k1 > 0
  · refine Rn.t (decide_eq_true c0) ?_
    obtain ⟨s, p, t, r, a1, a2, a3, a4⟩ := qpD hM.vs (k1 := k1 - 1) (m0 := m0) (m1 := m1) (m2 := m2) (by omega)
    rw [e2] at a2
    have n5 : p.length ≤ 100000 := by omega
    have n6 : r.length ≤ 100000 := by omega
    refine Rn.bind a1 (Rn.bind (qpz hu a2 n1 n3 n5 n6) ?_)
    by_cases c2 : u < qaW m3 (k1.toNat - 1)
    · have e3 : qe0 m3 k1.toNat u = -1 := if_pos ⟨by omega, c2⟩
      rw [e3]
      exact Rn.t (by rw [decide_eq_true_eq]; exact qls.2 c2) (Rn.pure _)
    · have e3 : qe0 m3 k1.toNat u = if k1.toNat < m3.length ∧ qaW m3 k1.toNat < u then 1 else 0 := if_neg fun h => c2 h.2
      rw [e3]
      exact Rn.f (by rw [decide_eq_true_eq]; exact fun h => c2 (qls.1 h)) (up _ _ _ _ rfl)
  · have e3 : qe0 m3 k1.toNat u = if k1.toNat < m3.length ∧ qaW m3 k1.toNat < u then 1 else 0 := if_neg fun h => c0 (by omega)
    rw [e3]
    exact Rn.f (by rw [decide_eq_true_eq]; exact c0) (up _ _ _ _ rfl)
theorem qwp : ∀ d i : Nat, i + d = upK u m3 → Rl (fun k n => qaI k n i m0 m1 m2 m3 u0 u1 u2 u3) ((upK u m3 : Int), 0, m0, m1, m2, m3, u0, u1, u2, u3) := by
  have hM := (qfN.1 hm).2
  have hl := hM.vlen
  have hle := qoV u m3
  intro d
  induction d with
  | zero =>
    intro i hi
    obtain rfl : i = upK u m3 := by omega
    refine Rl.up (f := fun k n => qaI k n (upK u m3) m0 m1 m2 m3 u0 u1 u2 u3) ?_
    show Rl (fun k n => qc0 k (qaI k n) _ _ _ _ _ _ _ _ _) _
    unfold qc0
    have hs := qpE h0 h2 h3 hu l1 l3 hm (k1 := (upK u m3 : Int)) (by omega)
    rw [Int.toNat_natCast, qtQ] at hs
    exact Rl.bind hs (Rl.f (by decide) (Rl.t (by decide) (Rl.pure _)))
  | succ d ih =>
    intro i hi
    refine Rl.up (f := fun k n => qaI k n i m0 m1 m2 m3 u0 u1 u2 u3) ?_
    show Rl (fun k n => qc0 k (qaI k n) _ _ _ _ _ _ _ _ _) _
    unfold qc0
    have hs := qpE h0 h2 h3 hu l1 l3 hm (k1 := (i : Int)) (by omega)
    rw [Int.toNat_natCast, qoW (by omega)] at hs
    refine Rl.bind hs (Rl.f (by decide) (Rl.f (by decide) ?_))
    rw [qK (by omega)]
    exact ih (i + 1) (by omega)
theorem qz1 : Rn (fun k => qcq k m0 m1 m2 m3 u0 u1 u2 u3) ((upK u m3 : Int), 0) :=
  Rn.up (f := fun k => qcq k m0 m1 m2 m3 u0 u1 u2 u3) (Rn.bind (qwp h0 h2 h3 hu l1 l3 hm (upK u m3) 0 (by omega)).diag (Rn.pure _))
end
theorem qsY {e : Int} (he : e ≠ 0) (h : Rn (fun k => qaU k m0 m1 m2 m3 0 u0 u1 u2 u3) (0, e)) : Rn (fun k => qcq k m0 m1 m2 m3 u0 u1 u2 u3) (0, e) := by
  have hl : Rl (fun k n => qaI k n 0 m0 m1 m2 m3 u0 u1 u2 u3) (0, e, m0, m1, m2, m3, u0, u1, u2, u3) := by
    refine Rl.up (f := fun k n => qaI k n 0 m0 m1 m2 m3 u0 u1 u2 u3) ?_
    show Rl (fun k n => qc0 k (qaI k n) _ _ _ _ _ _ _ _ _) _
    unfold qc0
    exact Rl.bind h (Rl.t (by rw [bne_iff_ne]; exact he) (Rl.pure _))
  exact Rn.up (f := fun k => qcq k m0 m1 m2 m3 u0 u1 u2 u3) (Rn.bind hl.diag (Rn.pure _))
end
end
end Go.Proofs.YtbhnafdmilfobaaGreat.Am

/- qp reckoning: what a model does in a segment. -/
set_option linter.unusedVariables false
set_option linter.unusedSectionVars false
set_option linter.unusedSimpArgs false
set_option maxRecDepth 10000
namespace Go.Proofs.YtbhnafdmilfobaaGreat.Am
open Go
theorem nm0 : Nm W false [] 0 := ⟨Cn.nil, fun h => (by cases h), rfl⟩
theorem qtR (n : Nat) : tl (List.replicate n (0 : Int)) = [] := by
  induction n with
  | zero => rfl
  | succ n ih => rw [List.replicate_succ, tl, ih]; simp
theorem qz2 (z x0 x1 y0 : Bool) (y1 : List Int) (hy : y1.length ≤ 1000000) : Rn (fun k => qcX k z x0 x1 y0 y1) (false, [], x0, x1, y0, y1) := by
  refine Rn.up (f := fun k => qcX k z x0 x1 y0 y1) ?_
  show Rn (fun k => qfb k z x0 x1 y0 y1) _
  unfold qfb
  have e1 : IntKind.i64.wrap ((0 : Int) + (y1.length : Int)) = (y1.length : Int) := by rw [qK (by omega)]; omega
  rw [e1, Int.toNat_natCast]
  have hl : Rl (fun k n => qaY k n y1.length 0 0 0 z x0 x1 y0 y1 (List.replicate y1.length 0) []) (y1.length, z, x0, x1, y0, y1, List.replicate y1.length 0, []) := by
    refine Rl.up (f := fun k n => qaY k n y1.length 0 0 0 z x0 x1 y0 y1 (List.replicate y1.length 0) []) ?_
    show Rl (fun k n => qeb k (qaY k n) _ _ _ _ _ _ _ _ _ _ _) _
    unfold qeb
    exact Rl.f (by decide) (Rl.pure _)
  refine Rn.t (by omega) (Rn.bind hl.diag (Rn.t (by simp) ?_))
  have hs := qhD (!(x0 == y0)) z (List.take y1.length (List.replicate y1.length (0 : Int))) (by simp; omega)
  have ht : List.take y1.length (List.replicate y1.length (0 : Int)) = List.replicate y1.length 0 := by simp
  have hsg : sgn (!(x0 == y0)) (List.replicate y1.length 0) = false := by unfold sgn; rw [qtR]; simp
  rw [ht, hsg, qtR] at hs
  rw [show List.take y1.length (List.replicate y1.length (0 : Int)) = List.replicate y1.length 0 from ht]
  exact Rn.bind hs (Rn.pure _)
theorem qyc {y0 y2 : Bool} {y1 y3 : List Int} {y : Rat} (hy : Fr y0 y1 y2 y3 y) (m1 : y1.length ≤ 100000) (m3 : y3.length ≤ 100000) :
    Rn (fun k => qcY k false false y0 y1 y2 y3) (y0, y1, y2, y3, y0, y1, y2, y3) := by
  have dY := qc6 hy (by omega) (by omega)
  obtain ⟨o, o1, o2, o3⟩ := qdU 1 (by omega)
  have o1' : Rn (fun k => qag k 1) (false, o) := o1
  have o2' : Nm W false o 1 := o2
  have a1 := qz2 false false false y2 y3 (by omega)
  have d1 : Rn (fun k => qap k false false) (false, false, false, o) := Rn.up (f := fun k => qap k false false) (Rn.bind o1' (Rn.pure _))
  obtain ⟨s2, p2, b1, b2, b3⟩ := qfK false y0 false y2 y1 o y3 hy.1 o2' (by omega) (by omega)
  obtain ⟨s3, p3, c1, c2, c3⟩ := qfJ false false y2 o y3 o2' hy.2 (by omega) (by omega)
  obtain ⟨s4, p4, e1, e2, e3⟩ := qpw false s2 [] p2 nm0 b2 (by decide) (by omega)
  simp only [List.length_nil] at e3
  have hdy := Rat.den_pos' y
  obtain ⟨s, p, t, r, f1, f2, f3, f4⟩ := qgj false false s4 s3 p4 p3 e2 c2 (by omega) (by omega) (by omega)
  have f2' : Fr s p t r y := f2.cast (by rw [Int.zero_add, Int.mul_one, Int.one_mul]; exact Rat.num_divInt_den y)
  obtain ⟨rfl, rfl, rfl, rfl⟩ := f2'.ext hy
  exact Rn.up (f := fun k => qcY k false false s p t r) (Rn.bind dY (Rn.bind a1 (Rn.bind d1 (Rn.bind b1 (Rn.bind d1 (Rn.bind dY (Rn.bind c1 (Rn.bind e1 (Rn.bind f1 (Rn.pure _)))))))))) 
theorem qwq : ∃ l, Rn (fun k => qdu k false false) (false, [], false, l, false, false) ∧ Fr false [] false l 0 ∧ l.length ≤ 2 := by
  obtain ⟨o, o1, o2, o3⟩ := qdU 1 (by omega)
  have o1' : Rn (fun k => qag k 1) (false, o) := o1
  have o2' : Nm W false o 1 := o2
  have d1 : Rn (fun k => qap k false false) (false, false, false, o) := Rn.up (f := fun k => qap k false false) (Rn.bind o1' (Rn.pure _))
  have n1 : Rn (fun k => qcZ k false false) (false, false, false, []) := Rn.up (f := fun k => qcZ k false false) (Rn.bind (qva nm0 (by decide)) (Rn.pure _))
  have g1 := qgE nm0 (by decide)
  have g2 := qgE o2' (by omega)
  refine ⟨o, Rn.up (f := fun k => qdu k false false) (Rn.bind n1 (Rn.bind g1 (Rn.bind d1 (Rn.bind g2 (Rn.t (by simp) (Rn.t (by simp) (Rn.const ?_))))))), ⟨nm0, o2'⟩, o3⟩
  simp
def qgh (m2 m3 : List (Int × Int)) : Nat → Rat
  | 0 => 0
  | k + 1 => qgh m2 m3 k + (qbo m2 k - qbo m2 (k + 1)) * qaW m3 k
def qgV (m1 : Int) (m2 m3 : List (Int × Int)) (k : Nat) : Rat := if m1 = 100 then qgh m2 m3 k else 0
section
variable {m0 : ByteArray} {m1 : Int} {m2 m3 : List (Int × Int)} (hM : OkM m1 m2 m3)
include hM
theorem qtS {i : Nat} (hi : i + 1 < m2.length) : ∃ s p t r x0 x1 x2 x3 y0 y1 y2 y3 d0 d1 d2 d3 q0 q1 q2 q3,
    Rn (fun k => qaL k (m2.getD i (0, 0)).1 (m2.getD i (0, 0)).2) (x0, x1, x2, x3) ∧ Rn (fun k => qaL k (m2.getD (i + 1) (0, 0)).1 (m2.getD (i + 1) (0, 0)).2) (y0, y1, y2, y3) ∧
    Rn (fun k => qbA k false false x0 x1 x2 x3 y0 y1 y2 y3) (d0, d1, d2, d3, x0, x1, x2, x3, y0, y1, y2, y3) ∧
    Rn (fun k => qbJ k m0 m1 m2 m3 i) (q0, q1, q2, q3) ∧ Rn (fun k => qbw k d0 d1 d2 d3 q0 q1 q2 q3) (s, p, t, r, q0, q1, q2, q3) ∧
    Fr s p t r ((qbo m2 i - qbo m2 (i + 1)) * qaW m3 i) ∧ p.length ≤ 9 ∧ r.length ≤ 8 := by
  have hl := hM.vlen
  obtain ⟨x0, x1, x2, x3, a1, a2, a3, a4⟩ := qgT (hM.gs i (by omega) (by omega))
  obtain ⟨y0, y1, y2, y3, b1, b2, b3, b4⟩ := qgT (hM.gs (i + 1) (by omega) (by omega))
  obtain ⟨d0, d1, d2, d3, c1, c2, c3, c4⟩ := qzQ false false a2 b2 (by omega) (by omega) (by omega) (by omega)
  obtain ⟨q0, q1, q2, q3, e1, e2, e3, e4⟩ := qpD hM.vs (k1 := (i : Int)) (m0 := m0) (m1 := m1) (m2 := m2) (by omega)
  rw [Int.toNat_natCast] at e2
  obtain ⟨s, p, t, r, f1, f2, f3, f4⟩ := qx7 c2 e2 (by omega) (by omega) (by omega) (by omega)
  exact ⟨s, p, t, r, x0, x1, x2, x3, y0, y1, y2, y3, d0, d1, d2, d3, q0, q1, q2, q3, a1, b1, c1, e1, f1, f2, by omega, by omega⟩
theorem qwr (hk : m1 = 100) (K : Nat) (hK : K < m2.length) (a1 a3 a5 a7 : Bool) (a2 a4 a6 a8 : Nat) (j1 j2 j3 j4 : List Int) : ∀ (d i : Nat) (s : Bool) (p : List Int) (t : Bool) (r : List Int), i + d = K → 1 ≤ i → Fr s p t r (qgh m2 m3 i) → p.length ≤ 9 * i → r.length ≤ 8 * i →
    ∃ s' p' t' r', Rl (fun k n => qab k n (.inr ((K : Int), (i : Int), m0, m1, m2, m3, a1, a2, a3, a4, a5, a6, a7, a8, s, p, t, r, j1, j2, j3, j4))) (.inr ((K : Int), m0, m1, m2, m3, a1, a2, a3, a4, a5, a6, a7, a8, s', p', t', r', j1, j2, j3, j4)) ∧
      Fr s' p' t' r' (qgh m2 m3 K) ∧ p'.length ≤ 9 * K ∧ r'.length ≤ 8 * K := by
  have hl := hM.vlen
  intro d
  induction d with
  | zero =>
    intro i s p t r hi h1 hf l1 l3
    obtain rfl : i = K := by omega
    refine ⟨s, p, t, r, Rl.up (f := fun k n => qab k n (.inr ((i : Int), (i : Int), m0, m1, m2, m3, a1, a2, a3, a4, a5, a6, a7, a8, s, p, t, r, j1, j2, j3, j4))) ?_, hf, l1, l3⟩
    show Rl (fun k n => qbM k (qab k n) _) _
    unfold qbM
    exact Rl.f (c := decide ((i : Int) < (i : Int)) = true) (by rw [decide_eq_true_eq]; omega) (Rl.pure _)
  | succ d ih =>
    intro i s p t r hi h1 hf l1 l3
    obtain ⟨sT, pT, tT, rT, x0, x1, x2, x3, y0, y1, y2, y3, d0, d1, d2, d3, q0, q1, q2, q3, b1, b2, b3, b4, b5, b6, b7, b8⟩ := qtS (m0 := m0) hM (i := i) (by omega)
    obtain ⟨s5, p5, t5, r5, c1, c2, c3, c4⟩ := qx6 hf b6 (by omega) (by omega) (by omega) (by omega)
    obtain ⟨s', p', t', r', e1, e2, e3, e4⟩ := ih (i + 1) s5 p5 t5 r5 (by omega) (by omega) (c2.cast rfl) (by omega) (by omega)
    refine ⟨s', p', t', r', Rl.up (f := fun k n => qab k n (.inr ((K : Int), (i : Int), m0, m1, m2, m3, a1, a2, a3, a4, a5, a6, a7, a8, s, p, t, r, j1, j2, j3, j4))) ?_, e2, e3, e4⟩
    show Rl (fun k n => qbM k (qab k n) _) _
    unfold qbM
    have w1 : IntKind.i64.wrap ((i : Int) + 1) = ((i + 1 : Nat) : Int) := by rw [qK (by omega)]; omega
    show Rl (fun k n => if decide ((i : Int) < (K : Int)) = true then if (m1 == 100) = true then if (0 : Int) ≤ i then Option.bind (m2[Int.toNat (i : Int)]?) _ else _ else _ else _) _
    rw [w1]
    have g1 : m2[Int.toNat (i : Int)]? = some (m2.getD i (0, 0)) := by rw [Int.toNat_natCast]; exact getD_some (0, 0) (by omega)
    have g2 : m2[Int.toNat ((i + 1 : Nat) : Int)]? = some (m2.getD (i + 1) (0, 0)) := by rw [Int.toNat_natCast]; exact getD_some (0, 0) (by omega)
    refine Rl.t (by rw [decide_eq_true_eq]; omega) (Rl.t (by rw [beq_iff_eq]; exact hk) (Rl.t (by omega) (Rl.at g1 (Rl.bind b1 (Rl.t (by omega) (Rl.at g2 (Rl.bind b2 (Rl.bind b3 (Rl.bind b4 (Rl.bind b5 (Rl.bind c1 ?_)))))))))))
    exact e1
end
section
variable {m0 : ByteArray} {m1 : Int} {m2 m3 : List (Int × Int)} (h0 : m0.size ≤ 1000000000000000000) (h2 : m2.length ≤ 1000000000000000000) (h3 : m3.length ≤ 1000000000000000000)
include h0 h2 h3
theorem qyd {k1 : Int} (h : qed m0 m1 m2 m3 k1 ≠ 0) : Rn (fun k => qbX k m0 m1 m2 m3 k1) (false, [], false, [], false, [], false, [], qed m0 m1 m2 m3 k1) :=
  Rn.up (f := fun k => qbX k m0 m1 m2 m3 k1) (Rn.bind (qf5 m0 m1 m2 m3 h0 h2 h3 k1) (Rn.t (by rw [bne_iff_ne]; exact h) (Rn.pure _)))
theorem qz3 (hm : okM m0 m1 m2 m3 = true) {k1 : Int} (hk : 0 ≤ k1 ∧ k1 < m2.length) : ∃ s p t r s' p' t' r', Rn (fun k => qbX k m0 m1 m2 m3 k1) (s, p, t, r, s', p', t', r', 0) ∧
    Fr s p t r (qbo m2 k1.toNat) ∧ Fr s' p' t' r' (qgV m1 m2 m3 k1.toNat) ∧ p.length ≤ 2 ∧ r.length ≤ 2 ∧ p'.length ≤ 27 ∧ r'.length ≤ 24 := by
  have hM := (qfN.1 hm).2
  have hl := hM.vlen
  obtain ⟨K, rfl⟩ := Int.eq_ofNat_of_zero_le hk.1
  have hc := qf5 m0 m1 m2 m3 h0 h2 h3 (K : Int)
  rw [qhI m0 m1 m2 m3 hm hk] at hc
  obtain ⟨s, p, t, r, a1, a2, a3, a4⟩ := qgT (hM.gs K (by omega) (by omega))
  have hg : m2[Int.toNat (K : Int)]? = some (m2.getD K (0, 0)) := by rw [Int.toNat_natCast]; exact getD_some (0, 0) (by omega)
  have hfr := qmq a2 (show p.length ≤ 1000000 by omega) (show r.length ≤ 1000000 by omega)
  rw [Int.toNat_natCast]
  obtain ⟨o, z1, z2, z3⟩ := qwq
  by_cases c0 : m1 = 100 ∧ 0 < K
  · obtain ⟨sT, pT, tT, rT, x0, x1, x2, x3, y0, y1, y2, y3, d0, d1, d2, d3, q0, q1, q2, q3, b1, b2, b3, b4, b5, b6, b7, b8⟩ := qtS (m0 := m0) hM (i := 0) (by omega)
    have bz := qyc b6 (by omega) (by omega)
    have e1 : qgh m2 m3 1 = (qbo m2 0 - qbo m2 (0 + 1)) * qaW m3 0 := by unfold qgh qgh; exact Rat.zero_add _
    obtain ⟨s', p', t', r', e2, e3, e4, e5⟩ := qwr (m0 := m0) hM c0.1 K (by omega) false false false false 0 0 0 0 [] [] [] [] (K - 1) 1 sT pT tT rT (by omega) (by omega) (b6.cast e1.symm) (by omega) (by omega)
    have hfc := qmq e3 (show p'.length ≤ 1000000 by omega) (show r'.length ≤ 1000000 by omega)
    have w1 : IntKind.i64.wrap ((0 : Int) + 1) = ((1 : Nat) : Int) := by decide
    have hL : Rl (fun k n => qab k n (.inl ((K : Int), 0, m0, m1, m2, m3, false, 0, false, 0, false, 0, false, 0, false, false, [], [], [], []))) (.inr ((K : Int), m0, m1, m2, m3, false, 0, false, 0, false, 0, false, 0, s', p', t', r', [], [], [], [])) := by
      refine Rl.up (f := fun k n => qab k n (.inl ((K : Int), 0, m0, m1, m2, m3, false, 0, false, 0, false, 0, false, 0, false, false, [], [], [], []))) ?_
      show Rl (fun k n => qbM k (qab k n) _) _
      unfold qbM
      show Rl (fun k n => if decide ((0 : Int) < (K : Int)) = true then if (m1 == 100) = true then if (0 : Int) ≤ 0 then Option.bind (m2[Int.toNat (0 : Int)]?) _ else _ else _ else _) _
      rw [w1]
      have g1 : m2[Int.toNat (0 : Int)]? = some (m2.getD 0 (0, 0)) := getD_some (0, 0) (show 0 < m2.length by omega)
      have g2 : m2[Int.toNat ((1 : Nat) : Int)]? = some (m2.getD (0 + 1) (0, 0)) := getD_some (0, 0) (show 1 < m2.length by omega)
      refine Rl.t (by rw [decide_eq_true_eq]; omega) (Rl.t (by rw [beq_iff_eq]; exact c0.1) (Rl.t (by omega) (Rl.at g1 (Rl.bind b1 (Rl.t (by omega) (Rl.at g2 (Rl.bind b2 (Rl.bind b3 (Rl.bind b4 (Rl.bind b5 (Rl.bind bz ?_)))))))))))
      exact e2
    refine ⟨s, p, t, r, s', p', t', r', Rn.up (f := fun k => qbX k m0 m1 m2 m3 (K : Int)) (Rn.bind hc (Rn.f (by decide) (Rn.bind hL.diag ?_))), a2, e3.cast (by unfold qgV; rw [if_pos c0.1]), a3, a4, by omega, by omega⟩
    exact Rn.t (c := (0 : Int) ≤ (K : Int)) (g := fun _ => none) (by omega) (Rn.at hg (Rn.bind a1 (Rn.bind hfr (Rn.bind hfc (Rn.pure _)))))
  · have hL : Rl (fun k n => qab k n (.inl ((K : Int), 0, m0, m1, m2, m3, false, 0, false, 0, false, 0, false, 0, false, false, [], [], [], []))) (.inl ((K : Int), m0, m1, m2, m3, false, 0, false, 0, false, 0, false, 0, false, false, [], [], [], [])) := by
      refine Rl.up (f := fun k n => qab k n (.inl ((K : Int), 0, m0, m1, m2, m3, false, 0, false, 0, false, 0, false, 0, false, false, [], [], [], []))) ?_
      show Rl (fun k n => qbM k (qab k n) _) _
      unfold qbM
      show Rl (fun k n => if decide ((0 : Int) < (K : Int)) = true then if (m1 == 100) = true then _ else _ else _) _
      by_cases c1 : 0 < K
      · exact Rl.t (by rw [decide_eq_true_eq]; omega) (Rl.f (by rw [beq_iff_eq]; exact fun h => c0 ⟨h, c1⟩) (Rl.pure _))
      · exact Rl.f (by rw [decide_eq_true_eq]; omega) (Rl.pure _)
    have e0 : qgV m1 m2 m3 K = 0 := by
      unfold qgV
      split
      · rename_i h
        obtain rfl : K = 0 := by by_cases c1 : 0 < K; exact absurd ⟨h, c1⟩ c0; omega
        rfl
      · rfl
    refine ⟨s, p, t, r, false, [], false, o, Rn.up (f := fun k => qbX k m0 m1 m2 m3 (K : Int)) (Rn.bind hc (Rn.f (by decide) (Rn.bind hL.diag ?_))), a2, z2.cast e0.symm, a3, a4, by simp, by omega⟩
    exact Rn.t (c := (0 : Int) ≤ (K : Int)) (g := fun _ => none) (by omega) (Rn.at hg (Rn.bind a1 (Rn.bind hfr (Rn.bind z1 (Rn.pure _)))))
end
end Go.Proofs.YtbhnafdmilfobaaGreat.Am

/- The law WaveCalls in plain words. -/
set_option linter.unusedVariables false
set_option linter.unusedSectionVars false
set_option linter.unusedSimpArgs false
set_option maxRecDepth 10000
namespace Go.Proofs.YtbhnafdmilfobaaGreat.Am
open Go
theorem qsZ (l : List (Int × Int)) (hl : l.length ≤ 1000000000000000000) : Rn (fun k => qce k l l) true := by
  have lp : ∀ d i : Nat, i + d = l.length → Rl (fun k n => qax k n l l i) (.inr ()) := by
    intro d
    induction d with
    | zero =>
      intro i hi
      refine Rl.up (f := fun k n => qax k n l l i) (Rl.of 0 fun k n _ => ?_)
      show qcK k (qax k n) _ _ _ = _
      unfold qcK
      exact if_neg (by simp; omega)
    | succ d ih =>
      intro i hi
      refine Rl.up (f := fun k n => qax k n l l i) ?_
      show Rl (fun k n => qcK k (qax k n) _ _ _) _
      unfold qcK
      have gi : l[Int.toNat (i : Int)]? = some (l.getD i (0, 0)) := getD_some (0, 0) (by rw [Int.toNat_natCast]; omega)
      refine Rl.t (decide_eq_true (by omega)) (Rl.t (by omega) (Rl.at gi (Rl.t (by omega) (Rl.at gi (Rl.t (by simp) (Rl.t (by simp) ?_))))))
      rw [qK (by omega)]
      exact ih (i + 1) (by omega)
  exact Rn.up (f := fun k => qce k l l) (Rn.f (by simp) (Rn.bind (lp l.length 0 (by omega)).diag (Rn.pure _)))
end Go.Proofs.YtbhnafdmilfobaaGreat.Am

/- qp reckoning: what the reference says of a model. -/
set_option linter.unusedVariables false
set_option linter.unusedSectionVars false
set_option linter.unusedSimpArgs false
set_option maxRecDepth 10000
namespace Go.Proofs.YtbhnafdmilfobaaGreat.Am
open Go
theorem qs0 {a0 a2 : Bool} {a1 a3 : List Int} {q : Rat} (h : FrU a0 a1 a2 a3 q) (l1 : a1.length ≤ 100000) (l3 : a3.length ≤ 100000) : ∃ p r, Rn (fun k => qcc k a0 a1 a2 a3) (a0, p, a2, r) ∧ Fr a0 p a2 r q := by
  obtain ⟨p, p1, p2, p3⟩ := qsT a0 a1 (by omega) h.1
  obtain ⟨r, r1, r2, r3⟩ := qsT a2 a3 (by omega) h.2
  exact ⟨p, r, Rn.up (f := fun k => qcc k a0 a1 a2 a3) (Rn.bind p1 (Rn.bind r1 (Rn.pure _))), p2, r2⟩
theorem qJQ {s t : Bool} {p r : List Int} (h : FrU s p t r (Rat.divInt 0 1)) : FrU s p t r 0 := h.cast (by simp)
section
variable {m0 : ByteArray} {m1 : Int} {m2 m3 : List (Int × Int)} (hM : OkM m1 m2 m3)
include hM
theorem qye : ∀ K : Nat, K < m2.length → ∃ s p t r s' p' t' r', Rn (fun k => qaQ k m0 m1 m2 m3 (K : Int)) (s, p, t, r, s', p', t', r') ∧
    FrU s p t r (qbo m2 K) ∧ FrU s' p' t' r' (qgV m1 m2 m3 K) ∧ p.length ≤ 90 ∧ r.length ≤ 90 ∧ p'.length ≤ 2600 * K + 4 ∧ r'.length ≤ 380 * K + 4 := by
  have hl := hM.vlen
  obtain ⟨z0, z1, z2, z3, za, zb, zc, zd⟩ := qwm 0 (by decide)
  have zb := qJQ zb
  intro K
  induction K with
  | zero =>
    intro hK
    obtain ⟨s, p, t, r, a1, a2, a3, a4⟩ := qhF (hM.gs 0 (by omega) hK)
    refine ⟨s, p, t, r, z0, z1, z2, z3, Rn.up (f := fun k => qaQ k m0 m1 m2 m3 ((0 : Nat) : Int)) ?_, a2, zb.cast (by unfold qgV qgh; split <;> rfl), a3, a4, by omega, by omega⟩
    show Rn (fun k => qdy k (qaQ k) m0 m1 m2 m3 0) _
    unfold qdy
    exact Rn.t (by decide) (Rn.at (getD_some (0, 0) hK) (Rn.bind a1 (Rn.f (by decide) (Rn.bind za (Rn.pure _)))))
  | succ K ih =>
    intro hK
    obtain ⟨s, p, t, r, a1, a2, a3, a4⟩ := qhF (hM.gs (K + 1) (by omega) hK)
    have hg : m2[Int.toNat ((K + 1 : Nat) : Int)]? = some (m2.getD (K + 1) (0, 0)) := by rw [Int.toNat_natCast]; exact getD_some (0, 0) hK
    have w1 : IntKind.i64.wrap (((K + 1 : Nat) : Int) - 1) = (K : Int) := by rw [qK (by omega)]; omega
    have up : ∀ {o}, Rn (fun k => qdy k (qaQ k) m0 m1 m2 m3 ((K + 1 : Nat) : Int)) o → Rn (fun k => qaQ k m0 m1 m2 m3 ((K + 1 : Nat) : Int)) o := fun h => Rn.up (f := fun k => qaQ k m0 m1 m2 m3 ((K + 1 : Nat) : Int)) h
    unfold qdy at up
    rw [w1] at up
    by_cases k1 : m1 = 115
    · exact ⟨s, p, t, r, z0, z1, z2, z3, up (Rn.t (by omega) (Rn.at hg (Rn.bind a1 (Rn.t (by rw [beq_eq_false_iff_ne]; omega) (Rn.t (by rw [beq_iff_eq]; exact k1) (Rn.bind za (Rn.pure _))))))), a2,
        zb.cast (by unfold qgV; rw [if_neg (by omega)]), a3, a4, by omega, by omega⟩
    · have k2 : m1 = 100 := by have := hM.kind; omega
      obtain ⟨h0, h1, h2, h3, c0, c1, c2, c3, b1, b2, b3, b4, b5, b6, b7⟩ := ih (by omega)
      obtain ⟨q0, q1, q2, q3, d1, d2, d3, d4⟩ := qmv hM.vs (k1 := (K : Int)) (m0 := m0) (m1 := m1) (m2 := m2) (by omega)
      rw [Int.toNat_natCast] at d2
      obtain ⟨x0, x1, x2, x3, e1, e2, e3, e4⟩ := qjG b2 d2 (by omega) (by omega) (by omega) (by omega)
      obtain ⟨y0, y1, y2, y3, f1, f2, f3, f4⟩ := qsW e2 b3 (by omega) (by omega) (by omega) (by omega)
      obtain ⟨v0, v1, v2, v3, g1, g2, g3, g4⟩ := qjG a2 d2 (by omega) (by omega) (by omega) (by omega)
      obtain ⟨l0, l1, l2, l3, i1, i2, i3, i4⟩ := qx8 f2 g2 (by omega) (by omega) (by omega) (by omega)
      refine ⟨s, p, t, r, l0, l1, l2, l3, up (Rn.t (by omega) (Rn.at hg (Rn.bind a1 (Rn.t (by rw [beq_eq_false_iff_ne]; omega) (Rn.f (by rw [beq_iff_eq]; exact k1) (Rn.bind b1 (Rn.bind d1 (Rn.bind e1 (Rn.bind f1 (Rn.bind g1 (Rn.bind i1 (Rn.pure _)))))))))))), a2, i2.cast ?_, a3, a4, by omega, by omega⟩
      unfold qgV
      rw [if_pos k2, if_pos k2]
      show _ = qgh m2 m3 K + (qbo m2 K - qbo m2 (K + 1)) * qaW m3 K
      have : qbo m2 (K + 1) = qfL (m2.getD (K + 1) (0, 0)).1 (m2.getD (K + 1) (0, 0)).2 := rfl
      rw [← this]
      grind
theorem qmw {u0 u2 : Bool} {u1 u3 : List Int} {u : Rat} (hu : FrU u0 u1 u2 u3 u) (l1 : u1.length ≤ 1000) (l3 : u3.length ≤ 1000) {K : Nat} (hK : K < m2.length) :
    Rn (fun k => qbD k m0 m1 m2 m3 (K : Int) u0 u1 u2 u3) (qe0 m3 K u) := by
  have hl := hM.vlen
  refine Rn.up (f := fun k => qbD k m0 m1 m2 m3 (K : Int) u0 u1 u2 u3) ?_
  show Rn (fun k => qfi k m0 m1 m2 m3 (K : Int) u0 u1 u2 u3) _
  unfold qfi
  have w1 : IntKind.i64.wrap ((m2.length : Int) - 1) = (m3.length : Int) := by rw [qK (by omega)]; omega
  rw [w1]
  have n1 : u1.length ≤ 10000 := by omega
  have n3 : u3.length ≤ 10000 := by omega
  have up : Rn (fun k => if decide ((K : Int) < (m3.length : Int)) = true then Option.bind (qaP k m0 m1 m2 m3 (K : Int)) fun r10 => Option.bind (qaB k u0 u1 u2 u3 r10.1 r10.2.1 r10.2.2.1 r10.2.2.2) fun r11 => if decide (r11 > 0) = true then some (1 : Int) else some 0 else some 0) (if K < m3.length ∧ qaW m3 K < u then 1 else 0) := by
    have q1 : K < m3.length ∧ qaW m3 K < u → (if K < m3.length ∧ qaW m3 K < u then (1 : Int) else 0) = 1 := fun h => if_pos h
    have q2 : ¬ (K < m3.length ∧ qaW m3 K < u) → (if K < m3.length ∧ qaW m3 K < u then (1 : Int) else 0) = 0 := fun h => if_neg h
    by_cases c1 : K < m3.length
    · obtain ⟨s, p, t, r, a1, a2, a3, a4⟩ := qmv hM.vs (k1 := (K : Int)) (m0 := m0) (m1 := m1) (m2 := m2) (by omega)
      rw [Int.toNat_natCast] at a2
      have n5 : p.length ≤ 10000 := by omega
      have n6 : r.length ≤ 10000 := by omega
      refine Rn.t (by rw [decide_eq_true_eq]; omega) (Rn.bind a1 (Rn.bind (qmu hu a2 n1 n3 n5 n6) ?_))
      by_cases c2 : qaW m3 K < u
      · rw [q1 ⟨c1, c2⟩]
        exact Rn.t (by rw [decide_eq_true_eq]; exact qlt.2 c2) (Rn.pure _)
      · rw [q2 fun h => c2 h.2]
        exact Rn.f (by rw [decide_eq_true_eq]; exact fun h => c2 (qlt.1 h)) (Rn.pure _)
    · rw [q2 fun h => c1 h.1]
      exact Rn.f (by rw [decide_eq_true_eq]; omega) (Rn.pure _)
  by_cases c0 : 0 < K
  · have w2 : IntKind.i64.wrap ((K : Int) - 1) = ((K - 1 : Nat) : Int) := by rw [qK (by omega)]; omega
    rw [w2]
    refine Rn.t (by rw [decide_eq_true_eq]; omega) ?_
    obtain ⟨s, p, t, r, a1, a2, a3, a4⟩ := qmv hM.vs (k1 := ((K - 1 : Nat) : Int)) (m0 := m0) (m1 := m1) (m2 := m2) (by omega)
    rw [Int.toNat_natCast] at a2
    have n5 : p.length ≤ 10000 := by omega
    have n6 : r.length ≤ 10000 := by omega
    refine Rn.bind a1 (Rn.bind (qmu hu a2 n1 n3 n5 n6) ?_)
    by_cases c2 : u < qaW m3 (K - 1)
    · have e3 : qe0 m3 K u = -1 := if_pos ⟨c0, c2⟩
      rw [e3]
      exact Rn.t (by rw [decide_eq_true_eq]; exact qls.2 c2) (Rn.pure _)
    · have e3 : qe0 m3 K u = if K < m3.length ∧ qaW m3 K < u then 1 else 0 := if_neg fun h => c2 h.2
      rw [e3]
      exact Rn.f (by rw [decide_eq_true_eq]; exact fun h => c2 (qls.1 h)) up
  · have e3 : qe0 m3 K u = if K < m3.length ∧ qaW m3 K < u then 1 else 0 := if_neg fun h => c0 h.1
    rw [e3]
    exact Rn.f (by rw [decide_eq_true_eq]; omega) up
theorem qvi {u0 u2 : Bool} {u1 u3 : List Int} {u : Rat} (hu : Fr u0 u1 u2 u3 u) (l1 : u1.length ≤ 72) (l3 : u3.length ≤ 72) : ∀ d i : Nat, i + d = upK u m3 →
    Rl (fun k n => qav k n i m0 m1 m2 m3 u0 u1 u2 u3) ((upK u m3 : Int), m0, m1, m2, m3, u0, u1, u2, u3) := by
  have hl := hM.vlen
  have hle := qoV u m3
  obtain ⟨p1, r1, t1, t2, t3, t4⟩ := qsV hu (by omega) (by omega)
  intro d
  induction d with
  | zero =>
    intro i hi
    obtain rfl : i = upK u m3 := by omega
    have hs := qmw (m0 := m0) hM t2 (by omega) (by omega) (K := upK u m3) (by omega)
    rw [qtQ] at hs
    refine Rl.up (f := fun k n => qav k n (upK u m3) m0 m1 m2 m3 u0 u1 u2 u3) ?_
    show Rl (fun k n => qcJ k (qav k n) _ _ _ _ _ _ _ _ _) _
    unfold qcJ
    exact Rl.bind t1 (Rl.bind hs (Rl.f (by decide) (Rl.pure _)))
  | succ d ih =>
    intro i hi
    have hs := qmw (m0 := m0) hM t2 (by omega) (by omega) (K := i) (by omega)
    rw [qoW (by omega)] at hs
    refine Rl.up (f := fun k n => qav k n i m0 m1 m2 m3 u0 u1 u2 u3) ?_
    show Rl (fun k n => qcJ k (qav k n) _ _ _ _ _ _ _ _ _) _
    unfold qcJ
    refine Rl.bind t1 (Rl.bind hs (Rl.t (by decide) ?_))
    rw [qK (by omega)]
    exact ih (i + 1) (by omega)
end
section
variable {m0 : ByteArray} {m1 : Int} {m2 m3 : List (Int × Int)} (h0 : m0.size ≤ 1000000000000000000) (h2 : m2.length ≤ 1000000000000000000) (h3 : m3.length ≤ 1000000000000000000)
include h0 h2 h3
theorem qws (k1 : Int) : ∃ s p t r s' p' t' r' e, Rn (fun k => qbX k m0 m1 m2 m3 k1) (s, p, t, r, s', p', t', r', e) ∧ Rn (fun k => qcd k m0 m1 m2 m3 k1) (s, p, t, r, s', p', t', r', e) ∧
    p.length ≤ 100 ∧ r.length ≤ 100 ∧ p'.length ≤ 100 ∧ r'.length ≤ 100 := by
  by_cases hz : qed m0 m1 m2 m3 k1 = 0
  · have hm : okM m0 m1 m2 m3 = true := Classical.byContradiction fun h => by rw [qhH m0 m1 m2 m3 h] at hz; omega
    have hk : 0 ≤ k1 ∧ k1 < m2.length := Classical.byContradiction fun h => by rw [qfO m0 m1 m2 m3 hm h] at hz; omega
    have hM := (qfN.1 hm).2
    obtain ⟨K, rfl⟩ := Int.eq_ofNat_of_zero_le hk.1
    have hl := hM.vlen
    obtain ⟨s, p, t, r, s', p', t', r', a1, a2, a3, a4, a5, a6, a7⟩ := qz3 h0 h2 h3 hm hk
    rw [Int.toNat_natCast] at a2 a3
    obtain ⟨g0, g1, g2, g3, c0, c1, c2, c3, b1, b2, b3, b4, b5, b6, b7⟩ := qye (m0 := m0) hM K (by omega)
    obtain ⟨x, y, d1, d2⟩ := qs0 b2 (by omega) (by omega)
    obtain ⟨x', y', e1, e2⟩ := qs0 b3 (by omega) (by omega)
    obtain ⟨rfl, rfl, rfl, rfl⟩ := d2.ext a2
    obtain ⟨rfl, rfl, rfl, rfl⟩ := e2.ext a3
    have hf := qfC m0 m1 m2 m3 h0 h2 h3 (K : Int)
    rw [hz] at hf
    exact ⟨_, _, _, _, _, _, _, _, _, a1, Rn.up (f := fun k => qcd k m0 m1 m2 m3 (K : Int)) (Rn.bind hf (Rn.f (by decide) (Rn.bind b1 (Rn.bind d1 (Rn.bind e1 (Rn.pure _)))))), by omega, by omega, by omega, by omega⟩
  · exact ⟨_, _, _, _, _, _, _, _, _, qyd h0 h2 h3 hz, Rn.up (f := fun k => qcd k m0 m1 m2 m3 k1) (Rn.bind (qfC m0 m1 m2 m3 h0 h2 h3 k1) (Rn.t (by rw [bne_iff_ne]; exact hz) (Rn.pure _))), by simp, by simp, by simp, by simp⟩
variable {u0 u2 : Bool} {u1 u3 : List Int} (la : u1.length ≤ 9223372036854775807) (lb : u3.length ≤ 9223372036854775807) (da : Dg W u1) (db : Dg W u3)
include la lb da db
theorem qwt (k1 : Int) : ∃ x e, Rn (fun k => qaU k m0 m1 m2 m3 k1 u0 u1 u2 u3) (x, e) ∧ Rn (fun k => qaS k m0 m1 m2 m3 k1 u0 u1 u2 u3) (x, e) := by
  by_cases hz : qed m0 m1 m2 m3 k1 = 0
  rotate_left
  · exact ⟨_, _, qpT h0 h2 h3 hz, qvg h0 h2 h3 hz⟩
  by_cases hf : qcz u0 u1 u2 u3 = 0
  rotate_left
  · exact ⟨_, _, qpU h0 h2 h3 la lb da db hz hf, qvh h0 h2 h3 la lb da db hz hf⟩
  obtain ⟨q, hu, l1, l3⟩ := qmt da db hf
  have hm : okM m0 m1 m2 m3 = true := Classical.byContradiction fun h => by rw [qhH m0 m1 m2 m3 h] at hz; omega
  have hk : 0 ≤ k1 ∧ k1 < m2.length := Classical.byContradiction fun h => by rw [qfO m0 m1 m2 m3 hm h] at hz; omega
  have hM := (qfN.1 hm).2
  obtain ⟨K, rfl⟩ := Int.eq_ofNat_of_zero_le hk.1
  have hs := qpE h0 h2 h3 hu l1 l3 hm hk
  rw [Int.toNat_natCast] at hs
  obtain ⟨p1, r1, t1, t2, t3, t4⟩ := qsV hu (by omega) (by omega)
  have hr := qmw (m0 := m0) hM t2 (by omega) (by omega) (K := K) (by omega)
  exact ⟨_, _, hs, Rn.up (f := fun k => qaS k m0 m1 m2 m3 (K : Int) u0 u1 u2 u3) (Rn.bind (qfC m0 m1 m2 m3 h0 h2 h3 (K : Int)) (Rn.t (by rw [hz]; decide) (Rn.bind (qfU la lb da db) (Rn.f (by rw [hf]; decide) (Rn.bind t1 (Rn.bind hr (Rn.pure _)))))))⟩
theorem qwu : ∃ x e, Rn (fun k => qcq k m0 m1 m2 m3 u0 u1 u2 u3) (x, e) ∧ Rn (fun k => qbE k m0 m1 m2 m3 u0 u1 u2 u3) (x, e) := by
  have hv := qg7 m0 m1 m2 m3 h0 h2 h3
  by_cases hm : okM m0 m1 m2 m3 = true
  rotate_left
  · have hz := qhH m0 m1 m2 m3 (k1 := 0) hm
    have hs := qpT h0 h2 h3 (u0 := u0) (u1 := u1) (u2 := u2) (u3 := u3) (k1 := 0) (show qed m0 m1 m2 m3 0 ≠ 0 by rw [hz]; decide)
    rw [hz] at hs
    exact ⟨_, _, qsY h0 h2 h3 (by decide) hs, Rn.up (f := fun k => qbE k m0 m1 m2 m3 u0 u1 u2 u3) (Rn.bind hv (Rn.t (by simp [hm]) (Rn.pure _)))⟩
  have hM := (qfN.1 hm).2
  have hl := hM.vlen
  by_cases hf : qcz u0 u1 u2 u3 = 0
  rotate_left
  · have hs := qpU h0 h2 h3 la lb da db (u0 := u0) (u2 := u2) (k1 := 0) (qhI m0 m1 m2 m3 hm (by have := hM.kind; omega)) hf
    exact ⟨_, _, qsY h0 h2 h3 hf hs, Rn.up (f := fun k => qbE k m0 m1 m2 m3 u0 u1 u2 u3) (Rn.bind hv (Rn.f (by simp [hm]) (Rn.bind (qfU la lb da db) (Rn.t (by rw [bne_iff_ne]; exact hf) (Rn.pure _)))))⟩
  obtain ⟨q, hu, l1, l3⟩ := qmt da db hf
  exact ⟨_, _, qz1 h0 h2 h3 hu l1 l3 hm, Rn.up (f := fun k => qbE k m0 m1 m2 m3 u0 u1 u2 u3) (Rn.bind hv (Rn.f (by simp [hm]) (Rn.bind (qfU la lb da db) (Rn.f (by rw [hf]; decide) (Rn.bind (qvi (m0 := m0) hM hu l1 l3 (upK q m3) 0 (by omega)).diag (Rn.pure _))))))⟩
end
end Go.Proofs.YtbhnafdmilfobaaGreat.Am

/- The fixed fact that every law asks first. -/
namespace Go.Proofs.YtbhnafdmilfobaaGreat.Am
theorem qwv (j : Nat) : qcB (j + 60) = some true := by kernel_rfl
theorem qww : Rn (fun k => qcB k) true := Rn.eq 60 fun k hk => by
  obtain ⟨j, rfl⟩ : ∃ j, k = j + 60 := ⟨k - 60, by omega⟩
  exact qwv j
end Go.Proofs.YtbhnafdmilfobaaGreat.Am

/- The law ModelWalk in plain words. -/
set_option linter.unusedVariables false
set_option linter.unusedSectionVars false
set_option linter.unusedSimpArgs false
set_option maxRecDepth 10000
namespace Go.Proofs.YtbhnafdmilfobaaGreat.Am
open Go
abbrev cdM : Cd := .pr .str (.pr (.int .u8) (.pr (.sl (.pr (.int .i64) (.int .i64))) (.sl (.pr (.int .i64) (.int .i64)))))
abbrev cdQ : Cd := .pr (.pr .bool (.sl (.int .u32))) (.pr .bool (.sl (.int .u32)))
theorem qEh {m : ByteArray × Int × List (Int × Int) × List (Int × Int)} (h : Wfd cdM m) : m.1.size ≤ 140737488351232 ∧ m.2.2.1.length * 16 ≤ 140737488351232 ∧ m.2.2.2.length * 16 ≤ 140737488351232 := by
  obtain ⟨h1, _, h3, h4⟩ := h
  have a1 : m.1.size ≤ reachBytes := h1.2
  have a3 : m.2.2.1.length * 16 ≤ reachBytes := h3.1.2
  have a4 : m.2.2.2.length * 16 ≤ reachBytes := h4.1.2
  unfold reachBytes at a1 a3 a4
  exact ⟨a1, a3, a4⟩
section
variable {m1 : Int} {m2 m3 : List (Int × Int)} (hM : OkM m1 m2 m3)
include hM
end
section
variable {m0 : ByteArray} {m1 : Int} {m2 m3 : List (Int × Int)} (h0 : m0.size ≤ 1000000000000000000) (h2 : m2.length ≤ 1000000000000000000) (h3 : m3.length ≤ 1000000000000000000)
  {u0 u2 : Bool} {u1 u3 : List Int} {u : Rat} (hu : Fr u0 u1 u2 u3 u) (l1 : u1.length ≤ 72) (l3 : u3.length ≤ 72) (hm : okM m0 m1 m2 m3 = true)
include h0 h2 h3 hu l1 l3 hm
end
end Go.Proofs.YtbhnafdmilfobaaGreat.Am

/- The law ModelCalls in plain words. -/
set_option linter.unusedVariables false
set_option linter.unusedSectionVars false
set_option linter.unusedSimpArgs false
set_option maxRecDepth 10000
namespace Go.Proofs.YtbhnafdmilfobaaGreat.Am
open Go
theorem qfW (a0 a2 : Bool) (a1 a3 : List Int) (h1 : a1.length ≤ 1000) (h3 : a3.length ≤ 1000) : Rn (fun k => qa7 k a0 a1 a2 a3 a0 a1 a2 a3) true := by
  have s1 := qoS a0 a0 a1 a1 (show a1.length ≤ 9223372036854775806 by omega)
  have s2 := qoS a2 a2 a3 a3 (show a3.length ≤ 9223372036854775806 by omega)
  rw [decide_eq_true ⟨rfl, rfl⟩] at s1 s2
  exact Rn.up (f := fun k => qa7 k a0 a1 a2 a3 a0 a1 a2 a3) (Rn.bind s1 (Rn.t rfl (Rn.bind s2 (Rn.pure _))))
theorem qyf (m0 : ByteArray) (m1 : Int) (m2 m3 : List (Int × Int)) (h2 : m2.length * 16 ≤ 140737488351232) (h3 : m3.length * 16 ≤ 140737488351232) :
    Rn (fun k => qc1 k m0 m1 m2 m3) (m0, m1, m2.length, m3.length, m2 ++ [(77, 0)], m3 ++ [(78, 0)]) := by
  refine Rn.up (f := fun k => qc1 k m0 m1 m2 m3) (Rn.eq 0 fun k _ => ?_)
  show qfc k m0 m1 m2 m3 = _
  unfold qfc
  have e1 : List.take (0 + m2.length) (List.take 0 [] ++ m2) = m2 := by simp
  have e2 : List.take (0 + m3.length) (List.take 0 [] ++ m3) = m3 := by simp
  rw [e1, e2]
  rw [if_pos (by omega), if_pos (by simp), if_pos (by omega), if_pos (by simp), if_pos (by omega), if_pos (by simp), if_pos (by omega), if_pos (by simp)]
  simp
theorem qwx (m0 : ByteArray) (m1 : Int) (m2 m3 : List (Int × Int)) (h0 : m0.size ≤ 1000000000000000000) (h2 : m2.length ≤ 1000000000000000000) (h3 : m3.length ≤ 1000000000000000000) :
    Rn (fun k => qcv k m0 m1 m2 m3) (if okM m0 m1 m2 m3 = true then (m2.length : Int) else 0) := by
  refine Rn.up (f := fun k => qcv k m0 m1 m2 m3) (Rn.bind (qf8 m0 m1 m2 m3 h0 h2 h3) ?_)
  by_cases h : okM m0 m1 m2 m3 = true
  · rw [if_pos h]; exact Rn.f (by simp [h]) (Rn.pure _)
  · rw [if_neg h]; exact Rn.t (by simp [h]) (Rn.pure _)
theorem qyg (m0 : ByteArray) (m1 : Int) (m2 m3 : List (Int × Int)) (h2 : m2.length ≤ 1000000000000000000) (h3 : m3.length ≤ 1000000000000000000) : Rn (fun k => qcf k m0 m1 m2 m3 m0 m1 m2 m3) true :=
  Rn.up (f := fun k => qcf k m0 m1 m2 m3 m0 m1 m2 m3) (Rn.t (by simp) (Rn.t (by simp) (Rn.bind (qsZ m2 h2) (Rn.t rfl (Rn.bind (qsZ m3 h3) (Rn.pure _))))))
theorem qoX (m : ByteArray × Int × List (Int × Int) × List (Int × Int)) (k1 : Int) (u : RT) (wm : Wfd cdM m) (wk : Wfd (.int .i64) k1) (wu : Wfd cdQ u) :
    ∃ k, qbb k m.1 m.2.1 m.2.2.1 m.2.2.2 k1 u.1.1 u.1.2 u.2.1 u.2.2 = some true := by
  obtain ⟨b0, b2, b3⟩ := qEh wm
  obtain ⟨⟨la, da⟩, lb, db⟩ := qzW wu
  obtain ⟨m0, m1, m2, m3⟩ := m
  obtain ⟨⟨u0, u1⟩, u2, u3⟩ := u
  dsimp only at b0 b2 b3 la lb da db ⊢
  have h0 : m0.size ≤ 1000000000000000000 := by omega
  have h2 : m2.length ≤ 1000000000000000000 := by omega
  have h3 : m3.length ≤ 1000000000000000000 := by omega
  suffices h : Rn (fun k => qbb k m0 m1 m2 m3 k1 u0 u1 u2 u3) true from h.get
  refine Rn.up (f := fun k => qbb k m0 m1 m2 m3 k1 u0 u1 u2 u3) (Rn.bind qww (Rn.f (by decide) ?_))
  by_cases c2 : IntKind.i64.wrap ((u1.length : Int) + (u3.length : Int)) > 160
  · exact Rn.t (decide_eq_true c2) (Rn.pure _)
  refine Rn.f (by rw [decide_eq_true_eq]; exact c2) (Rn.bind (qyf m0 m1 m2 m3 b2 b3) ?_)
  have e1 : List.take m2.length (m2 ++ [((77 : Int), (0 : Int))]) = m2 := by simp
  have e2 : List.take m3.length (m3 ++ [((78 : Int), (0 : Int))]) = m3 := by simp
  have t1 : 0 + m2.length ≤ (m2 ++ [((77 : Int), (0 : Int))]).length := by simp
  have t2 : 0 + m3.length ≤ (m3 ++ [((78 : Int), (0 : Int))]).length := by simp
  have w1 : IntKind.i64.wrap ((m2.length : Int) + 1) = (m2.length : Int) + 1 := qK (by omega)
  have w2 : IntKind.i64.wrap ((m3.length : Int) + 1) = (m3.length : Int) + 1 := qK (by omega)
  have g1 : (m2 ++ [((77 : Int), (0 : Int))])[0 + Int.toNat (m2.length : Int)]? = some (77, 0) := by simp
  have g2 : (m3 ++ [((78 : Int), (0 : Int))])[0 + Int.toNat (m3.length : Int)]? = some (78, 0) := by simp
  obtain ⟨s, p, t, r, s', p', t', r', e, a1, a2, a3, a4, a5, a6⟩ := qws h0 h2 h3 k1
  obtain ⟨x, ex, b1, b2⟩ := qwt h0 h2 h3 la lb da db k1
  obtain ⟨y, ey, c1, c2⟩ := qwu h0 h2 h3 la lb da db
  have v1 := qg7 m0 m1 m2 m3 h0 h2 h3
  have v2 := qf8 m0 m1 m2 m3 h0 h2 h3
  have v3 := qwx m0 m1 m2 m3 h0 h2 h3
  have v4 := qyg m0 m1 m2 m3 h2 h3
  dsimp only
  rw [e1, e2, w1, w2]
  refine Rn.t t1 (Rn.t t2 (Rn.bind a1 (Rn.bind a2 (Rn.t t1 (Rn.t t2 (Rn.bind b1 (Rn.bind b2 (Rn.t t1 (Rn.t t2 (Rn.bind c1 (Rn.bind c2 (Rn.bind v1 ?_))))))))))))
  have hb : (0 : Int) ≤ 0 ∧ 0 ≤ (m2.length : Int) + 1 ∧ (0 + Int.toNat ((m2.length : Int) + 1) ≤ (m2 ++ [((77 : Int), (0 : Int))]).length) ∧ ((0 : Int) < (m2.length : Int) + 1 ∨ true = true) := by
    refine ⟨by omega, by omega, ?_, .inr rfl⟩
    simp only [List.length_append, List.length_cons, List.length_nil]; omega
  have hb' : (0 : Int) ≤ 0 ∧ 0 ≤ (m3.length : Int) + 1 ∧ (0 + Int.toNat ((m3.length : Int) + 1) ≤ (m3 ++ [((78 : Int), (0 : Int))]).length) ∧ ((0 : Int) < (m3.length : Int) + 1 ∨ true = true) := by
    refine ⟨by omega, by omega, ?_, .inr rfl⟩
    simp only [List.length_append, List.length_cons, List.length_nil]; omega
  by_cases hm : okM m0 m1 m2 m3 = true
  · rw [if_pos hm] at v3
    refine Rn.t hm (Rn.bind (qfW _ _ _ _ (show p.length ≤ 1000 by omega) (show r.length ≤ 1000 by omega)) (Rn.t rfl (Rn.bind (qfW _ _ _ _ (show p'.length ≤ 1000 by omega) (show r'.length ≤ 1000 by omega)) (Rn.t rfl (Rn.t (by simp) (Rn.t (by simp) (Rn.t (by simp) (Rn.t (by simp) (Rn.t (by simp) (Rn.t t1 (Rn.t t2 (Rn.bind v2 (Rn.bind v1 (Rn.t (by simp) (Rn.t t1 (Rn.t t2 (Rn.bind v3 (Rn.f (by simp) (Rn.t t1 (Rn.t t2 (Rn.bind v4 (Rn.t rfl (Rn.t hb (Rn.t (by omega) (Rn.at g1 (Rn.t (by decide) (Rn.t hb' (Rn.t (by omega) (Rn.at g2 (Rn.const (by decide)))))))))))))))))))))))))))))))
  · rw [if_neg hm] at v3
    refine Rn.f hm (Rn.bind (qfW _ _ _ _ (show p.length ≤ 1000 by omega) (show r.length ≤ 1000 by omega)) (Rn.t rfl (Rn.bind (qfW _ _ _ _ (show p'.length ≤ 1000 by omega) (show r'.length ≤ 1000 by omega)) (Rn.t rfl (Rn.t (by simp) (Rn.t (by simp) (Rn.t (by simp) (Rn.t (by simp) (Rn.t (by simp) (Rn.t t1 (Rn.t t2 (Rn.bind v2 (Rn.bind v1 (Rn.t (by simp) (Rn.t t1 (Rn.t t2 (Rn.bind v3 (Rn.f (by simp) (Rn.t t1 (Rn.t t2 (Rn.bind v4 (Rn.t rfl (Rn.t hb (Rn.t (by omega) (Rn.at g1 (Rn.t (by decide) (Rn.t hb' (Rn.t (by omega) (Rn.at g2 (Rn.const (by decide)))))))))))))))))))))))))))))))
end Go.Proofs.YtbhnafdmilfobaaGreat.Am

/- The law ModelCalls returns true for every input, and its arguments read as they did. -/
namespace Go.Proofs.YtbhnafdmilfobaaGreat.modelCalls
open Go.ChangeShapes Go.WideShapes Go.ChangeAt Go.RowKit
open Go.Proofs.YtbhnafdmilfobaaGreat.Am
set_option linter.unusedVariables false
theorem own : ownKnob Tryz.prog.godebug = none := by kernel_rfl
theorem laidOut : laidOutB Tryz.prog = true := by kernel_rfl
set_option maxRecDepth 100000 in
theorem lifted (os : Os) (started : os.Started) (H : Type) (enc : TypeId × Value → H) :
    ReturnsInHanded {} Tryz.checked os 3 .any (Rows.modelCallsSpec.pre6 enc Tryz.prog Tryz.f3 Rows.modelCallsRow.domain false) (Rows.modelCallsSpec.post enc Tryz.prog Tryz.f3 false true false false) := by
  refine returnsInHanded_of_change_sized (C := Tryz.checked) own started (by kernel_rfl) Tryz.func3
    (ChangeSpec.witness6 (enc := enc) (C := Tryz.checked) false ⟨#[], #[.agg #[.string ByteArray.empty, .int .u8 0, .slice none 0 0, .slice none 0 0], .int .i64 0, .agg #[.bool false, .slice none 0 0, .bool false, .slice none 0 0]], []⟩ 8 (by kernel_rfl) (by kernel_rfl) (by kernel_rfl) (by kernel_rfl)) ?_
  intro W base args ds gs before hval0 hW hcnd hsz0 _
  have hval : ∀ (j : Nat) t v, Tryz.f3.params[j]? = some t → args[j]? = some v → Value.okWide Tryz.prog W .any base t v := hval0
  have hW' := hW
  obtain ⟨p, q, hA0, hV, rfl, hfz, hnd⟩ := hW
  have hA : DataW.TrodAll enc Tryz.prog W 0 (fun _ => true) true Tryz.f3.params.toList args.toList ds p := hA0
  rw [Tryz.params3] at hA hval
  obtain ⟨v0, vs0, d0, ds0, p0, q0, hargs, rfl, rfl, h0, r0⟩ := trodAll_cons hA
  obtain ⟨v1, vs1, d1, ds1, p1, q1, rfl, rfl, rfl, h1, r1⟩ := trodAll_cons r0
  obtain ⟨v2, vs2, d2, ds2, p2, q2, rfl, rfl, rfl, h2, r2⟩ := trodAll_cons r1
  obtain ⟨rfl, rfl, rfl⟩ := trodAll_nil r2
  obtain rfl : args = #[v0, v1, v2] := by cases args; simp_all
  obtain ⟨rfl, rfl⟩ := trodVars_none hV
  rw [Tryz.params3] at hsz0
  obtain ⟨hz0, hs0⟩ := qhR hsz0
  obtain ⟨hz1, hs1⟩ := qhR hs0
  obtain ⟨hz2, hs2⟩ := qhR hs1
  have lt0 : ∀ x ∈ p0, x.block < W.heap.size := by obtain ⟨m, hm⟩ := h0; exact DataW.trod_lt m _ _ _ hm
  obtain ⟨y0, rv0, nm0, wf0⟩ := qpA (d := 9) (c := (.pr .str (.pr (.int .u8) (.pr (.sl (.pr (.int .i64) (.int .i64))) (.sl (.pr (.int .i64) (.int .i64))))))) true (by kernel_rfl) (by kernel_rfl) (by kernel_rfl) (hval 0 24 v0 rfl rfl) h0 hz0
  have lt1 : ∀ x ∈ p1, x.block < W.heap.size := by obtain ⟨m, hm⟩ := h1; exact DataW.trod_lt m _ _ _ hm
  obtain ⟨y1, rv1, nm1, wf1⟩ := qpA (d := 9) (c := (.int .i64)) false (by kernel_rfl) (by kernel_rfl) (by kernel_rfl) (hval 1 3 v1 rfl rfl) h1 hz1
  have lt2 : ∀ x ∈ p2, x.block < W.heap.size := by obtain ⟨m, hm⟩ := h2; exact DataW.trod_lt m _ _ _ hm
  obtain ⟨y2, rv2, nm2, wf2⟩ := qpA (d := 9) (c := (.pr (.pr .bool (.sl (.int .u32))) (.pr .bool (.sl (.int .u32))))) true (by kernel_rfl) (by kernel_rfl) (by kernel_rfl) (hval 2 29 v2 rfl rfl) h2 hz2
  clear hA0 hval0
  obtain ⟨k, hk⟩ := qoX y0 y1 y2 wf0 wf1 wf2
  refine (qxY qAs (qJb k) (x := (y0.1, y0.2.1, y0.2.2.1, y0.2.2.2, y1, y2.1.1, y2.1.2, y2.2.1, y2.2.2)) (y := true) hk rfl (args := [qig true (.pr .str (.pr (.int .u8) (.pr (.sl (.pr (.int .i64) (.int .i64))) (.sl (.pr (.int .i64) (.int .i64)))))) y0, qig false (.int .i64) y1, qig true (.pr (.pr .bool (.sl (.int .u32))) (.pr .bool (.sl (.int .u32)))) y2]) rfl (qmr rv0 (qmr rv1 (qmr rv2 qzS))) (qih nm0 (qih nm1 (qih nm2 rfl)))).mono fun e W' ⟨he, bel⟩ => ?_
  subst he
  exact ⟨_, rfl, _, _, _, [], _, [], hW', trodAll_mk1 (shut_bool Tryz.underlying4 _), (trodAll_cons_mk (Below.trod laidOut (by kernel_rfl) (of_decide_eq_true (by kernel_rfl)) h0 bel lt0) (trodAll_cons_mk (Below.trod laidOut (by kernel_rfl) (of_decide_eq_true (by kernel_rfl)) h1 bel lt1) (trodAll_cons_mk (Below.trod laidOut (by kernel_rfl) (of_decide_eq_true (by kernel_rfl)) h2 bel lt2) trodAll_mk0))), rfl, bel.frame _, fun h => by cases h⟩
theorem over : Rows.modelCallsRow.holds Tryz.pinned (OpenSpec.ofChange Rows.modelCallsSpec) :=
  OpenClaim.holds_of_wide 3 Tryz.f3 rfl rfl rfl rfl rfl rfl rfl ⟨rfl, rfl, rfl, rfl, rfl⟩ rfl rfl rfl rfl rfl (by kernel_rfl) Tryz.func3 (by kernel_rfl)
    (of_decide_eq_true (by kernel_rfl)) (by unfold Func.isWrapper; first | (rw [if_pos (by decide +kernel)]; kernel_rfl) | (rw [if_neg (by decide +kernel)]; exact ⟨rfl, rfl⟩))
    (fun os started H enc _ => lifted os started H enc)
theorem proved : Rows.ModelCallsSaid := over
#print axioms proved
end Go.Proofs.YtbhnafdmilfobaaGreat.modelCalls
namespace Go.Proofs.YtbhnafdmilfobaaGreat
theorem modelCalls_holds : Rows.ModelCallsSaid := modelCalls.proved
end Go.Proofs.YtbhnafdmilfobaaGreat
