/- The law RatRounds returns true for every input, and its arguments read as they did. -/
import Derived.Test.YtjgpegpjmkgkkaaMRatRounds1
import Derived.Test.YtjgpegpjmkgkkaaRows
import Derived.WalkKit
import Derived.ProofKit
import Derived.OpenShut
import Derived.ShutString
import Derived.ChangeOld
import Derived.Below
import Derived.SizedLaws
import Derived.Carry

set_option linter.unusedVariables false
set_option linter.unusedSimpArgs false
set_option maxRecDepth 10000
namespace Go.Proofs.Ytjgpegpjmkgkkaa.Am
open Go

theorem U2 (i : Nat) : U ^ (2 * i) = W ^ i := by rw [Int.pow_mul]; rfl
theorem take_loop (k : Nat) (a0 : Bool) (a1 : List Int) (hla : a1.length ≤ 1000000000) (ha : Dg W a1) :
    ∀ (d i n : Nat) (ds : List Int), i + d = a1.length → d < n → ds.length = 2 * i → Dg U ds → V U ds = V W (a1.take i) →
    ∃ ds', Lshuntref01_Take_0 k n (2 * i) i a0 a1 false 0 ds [] = some (2 * a1.length, a0, a1, false, 0, ds', []) ∧ Dg U ds' ∧ ds'.length = 2 * a1.length ∧ V U ds' = V W a1 := by
  intro d
  induction d with
  | zero =>
    intro i n ds hi hn hl hd e
    obtain ⟨n, rfl⟩ : ∃ m, n = m + 1 := ⟨n - 1, by omega⟩
    have hia : i = a1.length := by omega
    subst hia
    refine ⟨ds, ?_, hd, hl, by rw [e, List.take_length]⟩
    show Lshuntref01_Take_0s k (Lshuntref01_Take_0 k n) _ _ _ _ _ _ _ _ = _
    unfold Lshuntref01_Take_0s
    simp (config := { implicitDefEqProofs := false, maxSteps := 2000000 }) (disch := omega) only [ps, ↓reduceIte, reduceCtorEq, Int.reduceLT, Int.reduceLE, Int.reduceEq, Nat.reduceLT, Nat.reduceLeDiff, Nat.reduceEqDiff, Int.reduceNeg, eitherK]
  | succ d ih =>
    intro i n ds hi hn hl hd e
    obtain ⟨n, rfl⟩ : ∃ m, n = m + 1 := ⟨n - 1, by omega⟩
    obtain ⟨x, hx⟩ := get_of (show i < a1.length by omega)
    have hxb := ha.get hx
    have h1 : ((i : Int) + 1) = ((i + 1 : Nat) : Int) := rfl
    have ht : ds.take (2 * i) = ds := List.take_of_length_le (by omega)
    have hdm := Int.emod_add_mul_ediv x 65536
    unfold W at hxb
    have hu : 0 ≤ x / 65536 ∧ x / 65536 < 65536 := by omega
    obtain ⟨ds', q1, q2⟩ := ih (i + 1) n (ds ++ [x % 65536, x / 65536]) (by omega) (by omega) (by simp [hl]; omega) (hd.append (Dg.cons (by unfold U; omega) (Dg.cons hu Dg.nil))) (by
      rw [V_append, V_take_succ hx, hl, U2, e]
      simp only [V]
      unfold U
      grind)
    refine ⟨ds', ?_, q2⟩
    rw [← q1]
    show Lshuntref01_Take_0s k (Lshuntref01_Take_0 k n) _ _ _ _ _ _ _ _ = _
    unfold Lshuntref01_Take_0s
    have h2 : 2 * i + 2 = 2 * (i + 1) := by omega
    simp (config := { implicitDefEqProofs := false, maxSteps := 2000000 }) (disch := omega) only [ps, ↓reduceIte, reduceCtorEq, Int.reduceLT, Int.reduceLE, Int.reduceEq, Nat.reduceLT, Nat.reduceLeDiff, Nat.reduceEqDiff, Int.reduceNeg, eitherK, hx, h1, hl, ht, List.take_succ_cons, List.length_cons, tdiv_pos, tmod_pos, h2]
theorem rTake_ev (a0 : Bool) (a1 : List Int) (hla : a1.length ≤ 1000000000) {z : Int} (hn : Nm W a0 a1 z) : ∃ l, Rn (fun k => Fshuntref01_Take k a0 a1) (a0, l) ∧ Nm U a0 l z ∧ l.length ≤ 2 * a1.length := by
  have main := Cn.uniq (B := U) (v := V W a1) (L := 2 * a1.length) (f := fun k => (Fshuntref01_Take (k + 1) a0 a1).map (·.2)) (by decide) (2 * a1.length + 3) fun k hk => by
    obtain ⟨ds, q1, q2, q3, q4⟩ := take_loop k a0 a1 hla hn.c.1 a1.length 0 k [] (by omega) (by omega) rfl Dg.nil (by simp [V])
    have := tl_len ds
    refine ⟨tl ds, ?_, Cn.of q2, by rw [V_tl, q4], by omega⟩
    have q1' : Lshuntref01_Take_0 k k 0 0 a0 a1 false 0 [] [] = _ := q1
    have ht := rtrim_eq ds (by omega) k (by omega)
    rw [q3] at ht
    show (bshuntref01_Take k a0 a1).map (·.2) = _
    unfold bshuntref01_Take
    rw [q1', Option.bind_some]
    simp only []
    rw [ht, Option.bind_some]
    cases a0
    · simp (config := { implicitDefEqProofs := false, maxSteps := 2000000 }) (disch := omega) only [ps, ↓reduceIte, reduceCtorEq, Int.reduceLT, Int.reduceLE, Int.reduceEq, Nat.reduceLT, Nat.reduceLeDiff, Nat.reduceEqDiff, Int.reduceNeg, eitherK]
      rw [tl_take]; rfl
    · simp (config := { implicitDefEqProofs := false, maxSteps := 2000000 }) (disch := omega) only [ps, ↓reduceIte, reduceCtorEq, Int.reduceLT, Int.reduceLE, Int.reduceEq, Nat.reduceLT, Nat.reduceLeDiff, Nat.reduceEqDiff, Int.reduceNeg, eitherK]
      rw [tl_take]; rfl
  obtain ⟨l, h1, h2, h3, h4⟩ := main
  have hzero : l = [] ↔ a1 = [] := by rw [h2.nil_iff (by decide), h3, hn.c.nil_iff (by decide)]
  have hnm : Nm U a0 l z := ⟨h2, fun hs h0 => hn.sg hs (hzero.1 h0), by rw [h3]; exact hn.z⟩
  refine ⟨l, ?_, hnm, h4⟩
  obtain ⟨K, h1⟩ := h1
  refine Rn.up (f := fun k => Fshuntref01_Take k a0 a1) (Rn.eq (max K (2 * a1.length + 3)) fun k hk => ?_)
  have e := h1 k (by omega)
  obtain ⟨ds, q1, q2, q3, q4⟩ := take_loop k a0 a1 hla hn.c.1 a1.length 0 k [] (by omega) (by omega) rfl Dg.nil (by simp [V])
  have q1' : Lshuntref01_Take_0 k k 0 0 a0 a1 false 0 [] [] = _ := q1
  have ht := rtrim_eq ds (by omega) k (by omega)
  rw [q3] at ht
  have hl : tl ds = l := Cn.ext (B := U) (by decide) (Cn.of q2) h2 (by rw [V_tl, q4, h3])
  have := tl_len ds
  show bshuntref01_Take k a0 a1 = _
  unfold bshuntref01_Take
  rw [q1', Option.bind_some]
  simp only []
  rw [ht, Option.bind_some]
  cases a0
  · simp (config := { implicitDefEqProofs := false, maxSteps := 2000000 }) (disch := omega) only [ps, ↓reduceIte, reduceCtorEq, Int.reduceLT, Int.reduceLE, Int.reduceEq, Nat.reduceLT, Nat.reduceLeDiff, Nat.reduceEqDiff, Int.reduceNeg, eitherK]
    rw [tl_take, hl]
  · have hne : l ≠ [] := fun h0 => hn.sg rfl (hzero.1 h0)
    have hpos : 0 < l.length := by cases l with
      | nil => exact absurd rfl hne
      | cons _ _ => simp
    simp (config := { implicitDefEqProofs := false, maxSteps := 2000000 }) (disch := omega) only [ps, ↓reduceIte, reduceCtorEq, Int.reduceLT, Int.reduceLE, Int.reduceEq, Nat.reduceLT, Nat.reduceLeDiff, Nat.reduceEqDiff, Int.reduceNeg, eitherK, hl]
    have t := tl_take ds
    rw [hl] at t
    rw [t]; rfl

theorem times_inner (k : Nat) (a0 b0 : Bool) (a1 b1 : List Int) (hb : Dg U b1) (i : Nat) (a : Int) (hai : a1[i]? = some a) (ha : 0 ≤ a ∧ a < U) (n12 : Nat) (hn12 : n12 ≤ 2000000000) (hi : i + b1.length < n12) :
    ∀ (d j n : Nat) (carry : Int) (ds : List Int), j + d = b1.length → d < n → 0 ≤ carry ∧ carry < U → ds.length = n12 → Dg U ds →
    ∃ carry' ds', Lshuntref01_Times_2 k n n12 i carry j a0 a1 b0 b1 false 0 ds [] = some (n12, (i : Int), carry', a0, a1, b0, b1, false, 0, ds', []) ∧ (0 ≤ carry' ∧ carry' < U) ∧ ds'.length = n12 ∧ Dg U ds' ∧
      V U ds' + carry' * U ^ (i + b1.length) = V U ds + carry * U ^ (i + j) + a * U ^ (i + j) * V U (b1.drop j) ∧ ∀ p, i + b1.length ≤ p → ds'[p]? = ds[p]? := by
  intro d
  induction d with
  | zero =>
    intro j n carry ds hj hn hc hl hd
    obtain ⟨n, rfl⟩ : ∃ m, n = m + 1 := ⟨n - 1, by omega⟩
    have : j = b1.length := by omega
    subst this
    refine ⟨carry, ds, ?_, hc, hl, hd, ?_, fun p _ => rfl⟩
    · show Lshuntref01_Times_2s k (Lshuntref01_Times_2 k n) _ _ _ _ _ _ _ _ _ _ _ _ = _
      unfold Lshuntref01_Times_2s
      simp (config := { implicitDefEqProofs := false, maxSteps := 2000000 }) (disch := omega) only [ps, ↓reduceIte, reduceCtorEq, Int.reduceLT, Int.reduceLE, Int.reduceEq, Nat.reduceLT, Nat.reduceLeDiff, Nat.reduceEqDiff, Int.reduceNeg, eitherK]
    · rw [List.drop_length]; simp [V]
  | succ d ih =>
    intro j n carry ds hj hn hc hl hd
    obtain ⟨n, rfl⟩ : ∃ m, n = m + 1 := ⟨n - 1, by omega⟩
    obtain ⟨b, hbj⟩ := get_of (show j < b1.length by omega)
    obtain ⟨o, ho⟩ := get_of (show i + j < ds.length by omega)
    have hbb := hb.get hbj
    have hob := hd.get ho
    have h1 : ((j : Int) + 1) = ((j + 1 : Nat) : Int) := rfl
    have h2 : ((i : Int) + (j : Int)) = ((i + j : Nat) : Int) := rfl
    unfold U at ha hbb hob hc
    have hm1 := Int.mul_nonneg ha.1 hbb.1
    have hm2 : a * b ≤ 65535 * b := Int.mul_le_mul_of_nonneg_right (by omega) hbb.1
    have hdm := Int.emod_add_mul_ediv (o + a * b + carry) U
    obtain ⟨c', o', q1, q2, q3, q4, q5, q6⟩ := ih (j + 1) n ((o + a * b + carry) / U) (ds.set (i + j) ((o + a * b + carry) % U)) (by omega) (by omega) (by unfold U; omega) (by simpa using hl) (hd.set _ (by unfold U; omega))
    refine ⟨c', o', ?_, q2, q3, q4, ?_, fun p hp => ?_⟩
    · rw [← q1]
      show Lshuntref01_Times_2s k (Lshuntref01_Times_2 k n) _ _ _ _ _ _ _ _ _ _ _ _ = _
      unfold Lshuntref01_Times_2s
      simp (config := { implicitDefEqProofs := false, maxSteps := 2000000 }) (disch := omega) only [ps, ↓reduceIte, reduceCtorEq, Int.reduceLT, Int.reduceLE, Int.reduceEq, Nat.reduceLT, Nat.reduceLeDiff, Nat.reduceEqDiff, Int.reduceNeg, eitherK, hai, hbj, h1, h2, ho, tdiv_pos, tmod_pos]
    · rw [q5, V_set _ ho, V_drop hbj, ← Nat.add_assoc, Int.pow_succ]
      grind
    · rw [q6 p hp, List.getElem?_set_ne (by omega)]
theorem times_outer (k : Nat) (a0 b0 : Bool) (a1 b1 : List Int) (ha : Dg U a1) (hb : Dg U b1) (hla : a1.length ≤ 1000000000) (hlb : b1.length ≤ 1000000000) (hk : b1.length < k) :
    ∀ (d i n : Nat) (ds : List Int), i + d = a1.length → d < n → ds.length = a1.length + b1.length → Dg U ds → V U ds = V U (a1.take i) * V U b1 → (∀ p, i + b1.length ≤ p → p < ds.length → ds[p]? = some 0) →
    ∃ ds', Lshuntref01_Times_0 k n (a1.length + b1.length) i a0 a1 b0 b1 false 0 ds [] = some (a1.length + b1.length, a0, a1, b0, b1, false, 0, ds', []) ∧ ds'.length = a1.length + b1.length ∧ Dg U ds' ∧ V U ds' = V U a1 * V U b1 := by
  intro d
  induction d with
  | zero =>
    intro i n ds hi hn hl hd e h0
    obtain ⟨n, rfl⟩ : ∃ m, n = m + 1 := ⟨n - 1, by omega⟩
    have : i = a1.length := by omega
    subst this
    refine ⟨ds, ?_, hl, hd, by rw [e, List.take_length]⟩
    show Lshuntref01_Times_0s k (Lshuntref01_Times_0 k n) _ _ _ _ _ _ _ _ _ _ = _
    unfold Lshuntref01_Times_0s
    simp (config := { implicitDefEqProofs := false, maxSteps := 2000000 }) (disch := omega) only [ps, ↓reduceIte, reduceCtorEq, Int.reduceLT, Int.reduceLE, Int.reduceEq, Nat.reduceLT, Nat.reduceLeDiff, Nat.reduceEqDiff, Int.reduceNeg, eitherK]
  | succ d ih =>
    intro i n ds hi hn hl hd e h0
    obtain ⟨n, rfl⟩ : ∃ m, n = m + 1 := ⟨n - 1, by omega⟩
    obtain ⟨a, hai⟩ := get_of (show i < a1.length by omega)
    have hab := ha.get hai
    obtain ⟨c', o', q1, q2, q3, q4, q5, q6⟩ := times_inner k a0 b0 a1 b1 hb i a hai hab (a1.length + b1.length) (by omega) (by omega) b1.length 0 k 0 ds (by omega) (by omega) (by decide) hl hd
    have hz : o'[i + b1.length]? = some 0 := by rw [q6 _ (Nat.le_refl _)]; exact h0 _ (Nat.le_refl _) (by omega)
    have h1 : ((i : Int) + 1) = ((i + 1 : Nat) : Int) := rfl
    have h2 : ((i : Int) + (b1.length : Int)) = ((i + b1.length : Nat) : Int) := rfl
    have e2 : V U (o'.set (i + b1.length) c') = V U (a1.take (i + 1)) * V U b1 := by
      rw [V_set _ hz, V_take_succ hai, Int.sub_zero]
      simp only [Nat.add_zero, List.drop_zero, Int.zero_mul, Int.add_zero] at q5
      rw [e] at q5
      rw [Int.add_mul, Int.mul_comm (U ^ i) a, ← q5, Int.mul_comm c']
    have e3 : ∀ p, (i + 1) + b1.length ≤ p → p < (o'.set (i + b1.length) c').length → (o'.set (i + b1.length) c')[p]? = some 0 := by
      intro p hp hpl
      rw [List.getElem?_set_ne (by omega), q6 p (by omega)]
      exact h0 p (by omega) (by simp at hpl; omega)
    obtain ⟨o2, r1, r2⟩ := ih (i + 1) n (o'.set (i + b1.length) c') (by omega) (by omega) (by simpa using q3) (q4.set _ q2) e2 e3
    refine ⟨o2, ?_, r2⟩
    rw [← r1]
    show Lshuntref01_Times_0s k (Lshuntref01_Times_0 k n) _ _ _ _ _ _ _ _ _ _ = _
    unfold Lshuntref01_Times_0s
    have q1' : Lshuntref01_Times_2 k k (a1.length + b1.length) i 0 0 a0 a1 b0 b1 false 0 ds [] = _ := q1
    unfold U at q2
    simp (config := { implicitDefEqProofs := false, maxSteps := 2000000 }) (disch := omega) only [ps, ↓reduceIte, reduceCtorEq, Int.reduceLT, Int.reduceLE, Int.reduceEq, Nat.reduceLT, Nat.reduceLeDiff, Nat.reduceEqDiff, Int.reduceNeg, eitherK, q1', h1, h2, hz, Int.zero_add]
theorem Times_ev (a0 b0 : Bool) (a1 b1 : List Int) {x y : Int} (nx : Nm U a0 a1 x) (ny : Nm U b0 b1 y) (hx : a1.length ≤ 1000000) (hy : b1.length ≤ 1000000) :
    ∃ s l, Rn (fun k => Fshuntref01_Times k a0 a1 b0 b1) (s, l) ∧ Nm U s l (x * y) ∧ l.length ≤ a1.length + b1.length := by
  have hU : (0 : Int) < U := by decide
  have main : ∀ k, a1.length + b1.length < k → ∃ ds', Lshuntref01_Times_0 k k (a1.length + b1.length) (0 : Int) a0 a1 b0 b1 false 0 (List.replicate (a1.length + b1.length) 0) [] = some (a1.length + b1.length, a0, a1, b0, b1, false, 0, ds', []) ∧ ds'.length = a1.length + b1.length ∧ Dg U ds' ∧ V U ds' = V U a1 * V U b1 := by
    intro k hk
    refine times_outer k a0 b0 a1 b1 nx.c.1 ny.c.1 (by omega) (by omega) (by omega) a1.length 0 k _ (by omega) (by omega) (by simp) (Dg.rep _ hU) (by rw [V_rep]; simp [V]) ?_
    intro p _ hp
    rw [List.getElem?_replicate_of_lt (by simpa using hp)]
  obtain ⟨o, q1, q2, q3, q4⟩ := main (a1.length + b1.length + 1) (by omega)
  have hto := tl_len o
  have hdec : ∀ l : List Int, decide ((0 : Int) < (l.length : Int)) = decide (0 < l.length) := fun l => by congr 1; simp
  refine ⟨if (!(a0 == b0)) = true then decide (0 < (tl o).length) else false, tl o, ?_, (nm_sg (a0 := !(a0 == b0)) (Cn.of q3) (by rw [V_tl, q4])).cast ?_, by omega⟩
  · refine Rn.up (f := fun k => Fshuntref01_Times k a0 a1 b0 b1) (Rn.eq (a1.length + b1.length + 3) fun k hk => ?_)
    show bshuntref01_Times k a0 a1 b0 b1 = _
    unfold bshuntref01_Times
    obtain ⟨o', r1, r2, r3, r4⟩ := main k (by omega)
    have ho : tl o' = tl o := Cn.ext hU (Cn.of r3) (Cn.of q3) (by rw [V_tl, V_tl, r4, q4])
    have hto' := tl_len o'
    have h2 : ((a1.length : Int) + (b1.length : Int)) = ((a1.length + b1.length : Nat) : Int) := rfl
    have ht := rtrim_eq o' (by omega) k (by omega)
    rw [r2] at ht
    have htt := tl_take o'
    rw [ho] at ht htt hto'
    simp (config := { implicitDefEqProofs := false, maxSteps := 2000000 }) (disch := omega) only [ps, ↓reduceIte, reduceCtorEq, Int.reduceLT, Int.reduceLE, Int.reduceEq, Nat.reduceLT, Nat.reduceLeDiff, Nat.reduceEqDiff, Int.reduceNeg, eitherK, h2, r1, ht]
    by_cases hs : a0 = b0
    · simp (config := { implicitDefEqProofs := false, maxSteps := 2000000 }) (disch := omega) only [ps, ↓reduceIte, reduceCtorEq, Int.reduceLT, Int.reduceLE, Int.reduceEq, Nat.reduceLT, Nat.reduceLeDiff, Nat.reduceEqDiff, Int.reduceNeg, eitherK, hs, htt]
    · simp (config := { implicitDefEqProofs := false, maxSteps := 2000000 }) (disch := omega) only [ps, ↓reduceIte, reduceCtorEq, Int.reduceLT, Int.reduceLE, Int.reduceEq, Nat.reduceLT, Nat.reduceLeDiff, Nat.reduceEqDiff, Int.reduceNeg, eitherK, hs, htt, hdec]
  · rw [← nx.z, ← ny.z]
    cases a0 <;> cases b0 <;> simp [Int.neg_mul, Int.mul_neg]
end Go.Proofs.Ytjgpegpjmkgkkaa.Am

/- Plain reckoning: the reference's division. -/
set_option linter.unusedVariables false
set_option linter.unusedSimpArgs false
set_option maxRecDepth 10000
namespace Go.Proofs.Ytjgpegpjmkgkkaa.Am
open Go

theorem rdiv_uniq {X Y Q R : Int} (h : Y * Q + R = X) (h0 : 0 ≤ R) (h1 : R < Y) : Q = X / Y ∧ R = X % Y := by
  subst h
  have hY : Y ≠ 0 := by omega
  constructor
  · rw [Int.add_comm, Int.add_mul_ediv_left _ _ hY, Int.ediv_eq_zero_of_lt h0 h1]; omega
  · rw [Int.add_comm, Int.add_mul_emod_self_left, Int.emod_eq_of_lt h0 h1]
theorem rtdiv_sg (sx sy : Bool) {X Y : Int} (hX : 0 ≤ X) : (if sx then -X else X).tdiv (if sy then -Y else Y) = if (!(sx == sy)) then -(X / Y) else X / Y := by
  have h : X.tdiv Y = X / Y := tdiv_pos hX
  cases sx <;> cases sy <;> simp [Int.neg_tdiv, Int.tdiv_neg, h]
theorem rtmod_sg (sx sy : Bool) {X Y : Int} (hX : 0 ≤ X) : (if sx then -X else X).tmod (if sy then -Y else Y) = if sx then -(X % Y) else X % Y := by
  have h : X.tmod Y = X % Y := tmod_pos hX
  cases sx <;> cases sy <;> simp [Int.neg_tmod, Int.tmod_neg, h]
theorem le_div_iff {q r b : Int} (hb : 0 < b) : b * q ≤ r ↔ q ≤ r / b := by
  rw [Int.le_ediv_iff_mul_le hb, Int.mul_comm]
theorem digit_loop (r b : List Int) (cr : Cn U r) (cb : Cn U b) (hb : 0 < V U b) (hlr : r.length ≤ 900000) (hlb : b.length ≤ 900000) :
    ∀ (m : Nat) (low high : Int), high - low < 2 ^ m → 0 ≤ low → low ≤ V U r / V U b → V U r / V U b ≤ high → high ≤ 65535 →
    ∃ K, ∀ k n, K ≤ k → m < n → Lshuntref01_digit_0 k n r b low high = some (V U r / V U b) := by
  intro m
  induction m with
  | zero =>
    intro low high h1 h2 h3 h4 h5
    refine ⟨0, fun k n _ hn => ?_⟩
    obtain ⟨n, rfl⟩ : ∃ m, n = m + 1 := ⟨n - 1, by omega⟩
    have : low = V U r / V U b := by simp at h1; omega
    rw [← this] at h4 ⊢
    show Lshuntref01_digit_0s k (Lshuntref01_digit_0 k n) _ _ _ _ = _
    unfold Lshuntref01_digit_0s
    simp at h1
    simp (config := { implicitDefEqProofs := false, maxSteps := 2000000 }) (disch := omega) only [ps, ↓reduceIte, reduceCtorEq, Int.reduceLT, Int.reduceLE, Int.reduceEq, Nat.reduceLT, Nat.reduceLeDiff, Nat.reduceEqDiff, Int.reduceNeg, eitherK]
  | succ m ih =>
    intro low high h1 h2 h3 h4 h5
    by_cases h : low < high
    · have hm : high - low < 2 * 2 ^ m := by rw [Int.pow_succ] at h1; omega
      obtain ⟨q, hq⟩ : ∃ q, q = (low + high + 1) / 2 := ⟨_, rfl⟩
      obtain ⟨l, ⟨K1, s1⟩, s2, s3⟩ := Small_ev q (by omega)
      have hq0 : decide (q < 0) = false := by simp; omega
      rw [hq0] at s1 s2
      obtain ⟨s, t, ⟨K2, t1⟩, t2, t3⟩ := Times_ev false false b l (nm_pos cb rfl) s2 (by omega) (by omega)
      obtain ⟨K3, c1⟩ := mags_ev t r (by omega) (by omega) t2.c cr
      have hvt : V U t = V U b * q := by
        have e := t2.abs (by decide)
        have : 0 ≤ V U b * q := Int.mul_nonneg (by omega) (by omega)
        omega
      rw [hvt] at c1
      have e1 : IntKind.i64.wrap (Int.tdiv (IntKind.i64.wrap (IntKind.i64.wrap (low + high) + 1)) 2) = q := by
        rw [wrap_i64 (x := low + high) (by omega), wrap_i64 (x := low + high + 1) (by omega), tdiv_pos (by omega), wrap_i64 (by omega)]
        exact hq.symm
      by_cases hle : V U b * q ≤ V U r
      · obtain ⟨K4, i1⟩ := ih q high (by omega) (by omega) ((le_div_iff hb).1 hle) h4 h5
        refine ⟨max K1 (max K2 (max K3 K4)), fun k n hk hn => ?_⟩
        obtain ⟨n, rfl⟩ : ∃ m, n = m + 1 := ⟨n - 1, by omega⟩
        rw [← i1 k n (by omega) (by omega)]
        have c := c1 k (by omega)
        obtain ⟨cz, hcz, hcases⟩ := cmpZ_cases (V U b * q) (V U r)
        rw [hcz] at c
        have a1 := s1 k (by omega)
        have a2 := t1 k (by omega)
        show Lshuntref01_digit_0s k (Lshuntref01_digit_0 k n) _ _ _ _ = _
        unfold Lshuntref01_digit_0s
        rw [e1]
        simp (config := { implicitDefEqProofs := false, maxSteps := 2000000 }) (disch := omega) only [ps, ↓reduceIte, reduceCtorEq, Int.reduceLT, Int.reduceLE, Int.reduceEq, Nat.reduceLT, Nat.reduceLeDiff, Nat.reduceEqDiff, Int.reduceNeg, eitherK, a1, a2, c]
      · have hgt : V U r / V U b ≤ q - 1 := by
          have := mt (le_div_iff hb).2 hle
          omega
        obtain ⟨K4, i1⟩ := ih low (q - 1) (by omega) (by omega) h3 hgt (by omega)
        refine ⟨max K1 (max K2 (max K3 K4)), fun k n hk hn => ?_⟩
        obtain ⟨n, rfl⟩ : ∃ m, n = m + 1 := ⟨n - 1, by omega⟩
        rw [← i1 k n (by omega) (by omega)]
        have c := c1 k (by omega)
        obtain ⟨cz, hcz, hcases⟩ := cmpZ_cases (V U b * q) (V U r)
        rw [hcz] at c
        have a1 := s1 k (by omega)
        have a2 := t1 k (by omega)
        show Lshuntref01_digit_0s k (Lshuntref01_digit_0 k n) _ _ _ _ = _
        unfold Lshuntref01_digit_0s
        rw [e1]
        simp (config := { implicitDefEqProofs := false, maxSteps := 2000000 }) (disch := omega) only [ps, ↓reduceIte, reduceCtorEq, Int.reduceLT, Int.reduceLE, Int.reduceEq, Nat.reduceLT, Nat.reduceLeDiff, Nat.reduceEqDiff, Int.reduceNeg, eitherK, a1, a2, c]
    · refine ⟨0, fun k n _ hn => ?_⟩
      obtain ⟨n, rfl⟩ : ∃ m, n = m + 1 := ⟨n - 1, by omega⟩
      have : low = V U r / V U b := by omega
      rw [← this] at h4 ⊢
      show Lshuntref01_digit_0s k (Lshuntref01_digit_0 k n) _ _ _ _ = _
      unfold Lshuntref01_digit_0s
      simp (config := { implicitDefEqProofs := false, maxSteps := 2000000 }) (disch := omega) only [ps, ↓reduceIte, reduceCtorEq, Int.reduceLT, Int.reduceLE, Int.reduceEq, Nat.reduceLT, Nat.reduceLeDiff, Nat.reduceEqDiff, Int.reduceNeg, eitherK]
theorem digit_ev (r b : List Int) (cr : Cn U r) (cb : Cn U b) (hb : 0 < V U b) (hlr : r.length ≤ 900000) (hlb : b.length ≤ 900000) (hq : V U r < U * V U b) : Rn (fun k => Fshuntref01_digit k r b) (V U r / V U b) := by
  refine Rn.up (f := fun k => Fshuntref01_digit k r b) ?_
  show Rn (fun k => bshuntref01_digit k r b) _
  unfold bshuntref01_digit
  have hr0 := V_nonneg (B := U) (by decide) cr.1
  refine Rn.bind (mags_ev r b (by omega) (by omega) cr cb) ?_
  obtain ⟨cz, hcz, hcases⟩ := cmpZ_cases (V U r) (V U b)
  rw [hcz]
  by_cases h : V U r < V U b
  · have : V U r / V U b = 0 := Int.ediv_eq_zero_of_lt hr0 h
    rw [this]
    (first | (refine Rn.t ?hc ?_; case hc => simp (config := { implicitDefEqProofs := false, maxSteps := 2000000 }) (disch := omega) only [ps, ↓reduceIte, reduceCtorEq, Int.reduceLT, Int.reduceLE, Int.reduceEq, Nat.reduceLT, Nat.reduceLeDiff, Nat.reduceEqDiff, Int.reduceNeg, eitherK]) | (refine Rn.f ?hc ?_; case hc => simp (config := { implicitDefEqProofs := false, maxSteps := 2000000 }) (disch := omega) only [ps, ↓reduceIte, reduceCtorEq, Int.reduceLT, Int.reduceLE, Int.reduceEq, Nat.reduceLT, Nat.reduceLeDiff, Nat.reduceEqDiff, Int.reduceNeg, eitherK]))
    exact Rn.pure _
  · have q0 : 0 ≤ V U r / V U b := Int.ediv_nonneg hr0 (by omega)
    have q1 : V U r / V U b < U := Int.ediv_lt_of_lt_mul hb hq
    have q2 : V U r / V U b < 65536 := q1
    obtain ⟨K, h1⟩ := digit_loop r b cr cb hb hlr hlb 16 0 65535 (by decide) (by decide) q0 (by omega) (by decide)
    (first | (refine Rn.t ?hc ?_; case hc => simp (config := { implicitDefEqProofs := false, maxSteps := 2000000 }) (disch := omega) only [ps, ↓reduceIte, reduceCtorEq, Int.reduceLT, Int.reduceLE, Int.reduceEq, Nat.reduceLT, Nat.reduceLeDiff, Nat.reduceEqDiff, Int.reduceNeg, eitherK]) | (refine Rn.f ?hc ?_; case hc => simp (config := { implicitDefEqProofs := false, maxSteps := 2000000 }) (disch := omega) only [ps, ↓reduceIte, reduceCtorEq, Int.reduceLT, Int.reduceLE, Int.reduceEq, Nat.reduceLT, Nat.reduceLeDiff, Nat.reduceEqDiff, Int.reduceNeg, eitherK]))
    exact Rn.bind (Rn.eq (K + 17) fun k hk => h1 k k (by omega) (by omega)) (Rn.pure _)
end Go.Proofs.Ytjgpegpjmkgkkaa.Am

/- Plain reckoning: the reference's division, its main loop. -/
set_option linter.unusedVariables false
set_option linter.unusedSimpArgs false
set_option maxRecDepth 10000
namespace Go.Proofs.Ytjgpegpjmkgkkaa.Am
open Go

/-- What one round needs. -/
theorem div_round (b1 r : List Int) (x1 : Int) (hx : 0 ≤ x1 ∧ x1 < U) (cb : Cn U b1) (hb : 0 < V U b1) (cr : Cn U r) (hr : V U r < V U b1) (hlr : r.length ≤ 800000) (hlb : b1.length ≤ 800000) :
    ∃ d, (0 ≤ d ∧ d < U) ∧ Rn (fun k => Fshuntref01_digit k (tl (x1 :: r)) b1) d ∧ Rn (fun k => Fshuntref01_trim_mfi k (1 + r.length) (x1 :: r)) ((tl (x1 :: r)).length, x1 :: r) ∧
      (d = 0 → V U (tl (x1 :: r)) < V U b1) ∧ (0 < d → ∃ l s t m, Rn (fun k => Fshuntref01_Small k d) (false, l) ∧ Rn (fun k => Fshuntref01_Times k false b1 false l) (s, t) ∧ Rn (fun k => Fshuntref01_minus k (tl (x1 :: r)) t) m ∧
        Cn U m ∧ V U m < V U b1 ∧ V U m + V U b1 * d = x1 + U * V U r ∧ m.length ≤ b1.length) := by
  have hr0 := V_nonneg (B := U) (by decide) cr.1
  have dn : Dg U (x1 :: r) := Dg.cons hx cr.1
  have cn : Cn U (tl (x1 :: r)) := Cn.of dn
  have vn : V U (tl (x1 :: r)) = x1 + U * V U r := by rw [V_tl]; rfl
  have ln := tl_len (x1 :: r)
  have hlen : (x1 :: r).length = r.length + 1 := rfl
  have hlt : V U (tl (x1 :: r)) < U * V U b1 := by
    have : U * (V U r + 1) ≤ U * V U b1 := Int.mul_le_mul_of_nonneg_left (by omega) (by decide)
    rw [vn]; rw [Int.mul_add, Int.mul_one] at this; omega
  have hn0 := V_nonneg (B := U) (by decide) cn.1
  have hd := digit_ev (tl (x1 :: r)) b1 cn cb hb (by omega) (by omega) hlt
  have q0 : 0 ≤ V U (tl (x1 :: r)) / V U b1 := Int.ediv_nonneg hn0 (by omega)
  have q1 : V U (tl (x1 :: r)) / V U b1 < U := Int.ediv_lt_of_lt_mul hb hlt
  have qm := Int.emod_add_mul_ediv (V U (tl (x1 :: r))) (V U b1)
  have qa := Int.emod_nonneg (V U (tl (x1 :: r))) (show V U b1 ≠ 0 by omega)
  have qb := Int.emod_lt_of_pos (V U (tl (x1 :: r))) hb
  refine ⟨_, ⟨q0, q1⟩, hd, ?_, ?_, ?_⟩
  · have := rtrim_ev (1 + r.length) (x1 :: r) (by omega) (by omega)
    rwa [List.take_of_length_le (by omega)] at this
  · intro h; rw [h] at qm; omega
  · intro h
    generalize V U (tl (x1 :: r)) / V U b1 = d at *
    have q2 : d < 65536 := q1
    obtain ⟨l, s1, s2, s3⟩ := Small_ev d (by omega)
    have hq0 : decide (d < 0) = false := by simp; omega
    rw [hq0] at s1 s2
    obtain ⟨s, t, t1, t2, t3⟩ := Times_ev false false b1 l (nm_pos cb rfl) s2 (by omega) (by omega)
    have hvt : V U t = V U b1 * d := by
      have e := t2.abs (by decide)
      have : 0 ≤ V U b1 * d := Int.mul_nonneg (by omega) (by omega)
      omega
    obtain ⟨m, m1, m2, m3, m4⟩ := minus_ev (tl (x1 :: r)) t (by omega) cn.1 t2.c (by omega)
    refine ⟨l, s, t, m, s1, t1, m1, m2, by omega, by omega, ?_⟩
    refine Nat.le_of_not_lt fun hlt => ?_
    have := Cn.len_lt (B := U) (by decide) cb m2 hlt
    omega
/-- The loop's state: the rest stands in a cell's memory, or as its own. -/
def Dst (q : Nat) (i : Int) (a0 : Bool) (a1 : List Int) (b0 : Bool) (b1 qs r : List Int) (x : ((Nat × Nat × Int × Bool × List Int × Bool × List Int × Bool × Nat × Bool × Nat × List Int × List Int × List Int × List Int) ⊕ (Nat × List Int × Int × Bool × List Int × Bool × List Int × Bool × Nat × Bool × Nat × List Int × List Int × List Int))) : Prop :=
  (∃ mem m1 m2, x = .inl (q, r.length, i, a0, a1, b0, b1, false, 0, false, 0, qs, mem, m1, m2) ∧ r.length ≤ mem.length ∧ mem.take r.length = r) ∨ (∃ m1 m2, x = .inr (q, r, i, a0, a1, b0, b1, false, 0, false, 0, qs, m1, m2))
def Dout (q : Nat) (a0 : Bool) (a1 : List Int) (b0 : Bool) (b1 qs r : List Int) (x : ((Nat × Nat × Bool × List Int × Bool × List Int × Bool × Nat × Bool × Nat × List Int × List Int × List Int × List Int) ⊕ (Nat × List Int × Bool × List Int × Bool × List Int × Bool × Nat × Bool × Nat × List Int × List Int × List Int))) : Prop :=
  (∃ mem m1 m2, x = .inl (q, r.length, a0, a1, b0, b1, false, 0, false, 0, qs, mem, m1, m2) ∧ r.length ≤ mem.length ∧ mem.take r.length = r) ∨ (∃ m1 m2, x = .inr (q, r, a0, a1, b0, b1, false, 0, false, 0, qs, m1, m2))
theorem div_alg {b vq vr x d va vm : Int} (h : b * vq + vr = va) (e : vm + b * d = x + U * vr) : b * (d + U * vq) + vm = x + U * va := by
  subst h; grind
theorem div_loop (a0 b0 : Bool) (a1 b1 : List Int) (da : Dg U a1) (cb : Cn U b1) (hb : 0 < V U b1) (hla : a1.length ≤ 800000) (hlb : b1.length ≤ 800000) :
    ∀ (e : Nat) (qs r : List Int) x, e ≤ a1.length → qs.length = a1.length → Dg U qs → Cn U r → V U r < V U b1 → V U b1 * V U (qs.drop e) + V U r = V U (a1.drop e) → Dst a1.length ((e : Int) - 1) a0 a1 b0 b1 qs r x →
    ∃ qs' r' y, Dout a1.length a0 a1 b0 b1 qs' r' y ∧ (qs'.length = a1.length ∧ Dg U qs' ∧ Cn U r' ∧ V U r' < V U b1 ∧ V U b1 * V U qs' + V U r' = V U a1) ∧ ∃ K, ∀ k n, K ≤ k → e < n → Lshuntref01_Divide_0 k n x = some y := by
  intro e
  induction e with
  | zero =>
    intro qs r x he hl dq cr hr hv hx
    rcases hx with ⟨mem, m1, m2, rfl, h1, h2⟩ | ⟨m1, m2, rfl⟩
    · refine ⟨qs, r, _, .inl ⟨mem, m1, m2, rfl, h1, h2⟩, ⟨hl, dq, cr, hr, by simpa using hv⟩, 0, fun k n _ hn => ?_⟩
      obtain ⟨n, rfl⟩ : ∃ m, n = m + 1 := ⟨n - 1, by omega⟩
      show Lshuntref01_Divide_0s k (Lshuntref01_Divide_0 k n) _ = _
      unfold Lshuntref01_Divide_0s
      simp (config := { implicitDefEqProofs := false, maxSteps := 2000000 }) (disch := omega) only [ps, ↓reduceIte, reduceCtorEq, Int.reduceLT, Int.reduceLE, Int.reduceEq, Nat.reduceLT, Nat.reduceLeDiff, Nat.reduceEqDiff, Int.reduceNeg, eitherK, eitherK, Int.zero_sub, Int.natCast_zero]
    · refine ⟨qs, r, _, .inr ⟨m1, m2, rfl⟩, ⟨hl, dq, cr, hr, by simpa using hv⟩, 0, fun k n _ hn => ?_⟩
      obtain ⟨n, rfl⟩ : ∃ m, n = m + 1 := ⟨n - 1, by omega⟩
      show Lshuntref01_Divide_0s k (Lshuntref01_Divide_0 k n) _ = _
      unfold Lshuntref01_Divide_0s
      simp (config := { implicitDefEqProofs := false, maxSteps := 2000000 }) (disch := omega) only [ps, ↓reduceIte, reduceCtorEq, Int.reduceLT, Int.reduceLE, Int.reduceEq, Nat.reduceLT, Nat.reduceLeDiff, Nat.reduceEqDiff, Int.reduceNeg, eitherK, eitherK, Int.zero_sub, Int.natCast_zero]
  | succ j ih =>
    intro qs r x he hl dq cr hr hv hx
    have hlr : r.length ≤ b1.length := by
      refine Nat.le_of_not_lt fun hlt => ?_
      have := Cn.len_lt (B := U) (by decide) cb cr hlt
      omega
    obtain ⟨x1, hx1⟩ := get_of (show j < a1.length by omega)
    obtain ⟨x2, hx2⟩ := get_of (show j < qs.length by omega)
    obtain ⟨d, hd, ⟨K1, h1⟩, ⟨K2, h2⟩, h3, h4⟩ := div_round b1 r x1 (da.get hx1) cb hb cr hr (by omega) hlb
    have hjj : ((j + 1 : Nat) : Int) - 1 = (j : Int) := by omega
    have hdrop : (qs.set j d).drop j = d :: qs.drop (j + 1) := by
      rw [List.drop_eq_getElem_cons (by simp; omega)]
      simp [List.drop_set_of_lt]
    have htl := tl_take (x1 :: r)
    have ltl := tl_len (x1 :: r)
    have hlen : (x1 :: r).length = r.length + 1 := rfl
    have hVa := V_drop (B := U) hx1
    rw [hjj] at hx
    by_cases hd0 : d = 0
    · have hlt := h3 hd0
      subst hd0
      have cn : Cn U (tl (x1 :: r)) := Cn.of (Dg.cons (da.get hx1) cr.1)
      have vn : V U (tl (x1 :: r)) = x1 + U * V U r := by rw [V_tl]; rfl
      have key := ih (qs.set j 0) (tl (x1 :: r))
      have hvv : V U b1 * V U ((qs.set j 0).drop j) + V U (tl (x1 :: r)) = V U (a1.drop j) := by
        rw [hdrop, hVa]; simp only [V]; exact div_alg hv (by rw [vn]; omega)
      rcases hx with ⟨mem, m1, m2, rfl, g1, g2⟩ | ⟨m1, m2, rfl⟩
      · obtain ⟨qs', r', y, i1, i2, K, i3⟩ := key _ (by omega) (by simpa using hl) (dq.set j hd) cn hlt hvv (.inl ⟨x1 :: r, m1, m2, rfl, ltl, htl⟩)
        refine ⟨qs', r', y, i1, i2, max K (max K1 K2), fun k n hk hn => ?_⟩
        obtain ⟨n, rfl⟩ : ∃ m, n = m + 1 := ⟨n - 1, by omega⟩
        rw [← i3 k n (by omega) (by omega)]
        have c1 := h1 k (by omega)
        have c2 := h2 k (by omega)
        show Lshuntref01_Divide_0s k (Lshuntref01_Divide_0 k n) _ = _
        unfold Lshuntref01_Divide_0s
        simp only [eitherK]
        simp (config := { implicitDefEqProofs := false, maxSteps := 2000000 }) (disch := omega) only [ps, ↓reduceIte, reduceCtorEq, Int.reduceLT, Int.reduceLE, Int.reduceEq, Nat.reduceLT, Nat.reduceLeDiff, Nat.reduceEqDiff, Int.reduceNeg, eitherK, g2, hx1, hx2, c1, c2, htl, List.take_succ_cons, List.cons_append]
      · obtain ⟨qs', r', y, i1, i2, K, i3⟩ := key _ (by omega) (by simpa using hl) (dq.set j hd) cn hlt hvv (.inl ⟨x1 :: r, m1, m2, rfl, ltl, htl⟩)
        refine ⟨qs', r', y, i1, i2, max K (max K1 K2), fun k n hk hn => ?_⟩
        obtain ⟨n, rfl⟩ : ∃ m, n = m + 1 := ⟨n - 1, by omega⟩
        rw [← i3 k n (by omega) (by omega)]
        have c1 := h1 k (by omega)
        have c2 := h2 k (by omega)
        show Lshuntref01_Divide_0s k (Lshuntref01_Divide_0 k n) _ = _
        unfold Lshuntref01_Divide_0s
        simp only [eitherK]
        simp (config := { implicitDefEqProofs := false, maxSteps := 2000000 }) (disch := omega) only [ps, ↓reduceIte, reduceCtorEq, Int.reduceLT, Int.reduceLE, Int.reduceEq, Nat.reduceLT, Nat.reduceLeDiff, Nat.reduceEqDiff, Int.reduceNeg, eitherK, hx1, hx2, c1, c2, htl, List.take_succ_cons, List.cons_append]
    · obtain ⟨l, s, t, m, ⟨K3, s1⟩, ⟨K4, s2⟩, ⟨K5, s3⟩, s4, s5, s6, s7⟩ := h4 (by omega)
      have key := ih (qs.set j d) m
      have hvv : V U b1 * V U ((qs.set j d).drop j) + V U m = V U (a1.drop j) := by
        rw [hdrop, hVa]; simp only [V]; exact div_alg hv s6
      rcases hx with ⟨mem, m1, m2, rfl, g1, g2⟩ | ⟨m1, m2, rfl⟩
      · obtain ⟨qs', r', y, i1, i2, K, i3⟩ := key _ (by omega) (by simpa using hl) (dq.set j hd) s4 s5 hvv (.inr ⟨m1, m2, rfl⟩)
        refine ⟨qs', r', y, i1, i2, max K (max (max K1 K2) (max K3 (max K4 K5))), fun k n hk hn => ?_⟩
        obtain ⟨n, rfl⟩ : ∃ m, n = m + 1 := ⟨n - 1, by omega⟩
        rw [← i3 k n (by omega) (by omega)]
        have c1 := h1 k (by omega)
        have c2 := h2 k (by omega)
        have c3 := s1 k (by omega)
        have c4 := s2 k (by omega)
        have c5 := s3 k (by omega)
        show Lshuntref01_Divide_0s k (Lshuntref01_Divide_0 k n) _ = _
        unfold Lshuntref01_Divide_0s
        simp only [eitherK]
        simp (config := { implicitDefEqProofs := false, maxSteps := 2000000 }) (disch := omega) only [ps, ↓reduceIte, reduceCtorEq, Int.reduceLT, Int.reduceLE, Int.reduceEq, Nat.reduceLT, Nat.reduceLeDiff, Nat.reduceEqDiff, Int.reduceNeg, eitherK, g2, hx1, hx2, c1, c2, c3, c4, c5, htl, List.take_succ_cons, List.cons_append]
      · obtain ⟨qs', r', y, i1, i2, K, i3⟩ := key _ (by omega) (by simpa using hl) (dq.set j hd) s4 s5 hvv (.inr ⟨m1, m2, rfl⟩)
        refine ⟨qs', r', y, i1, i2, max K (max (max K1 K2) (max K3 (max K4 K5))), fun k n hk hn => ?_⟩
        obtain ⟨n, rfl⟩ : ∃ m, n = m + 1 := ⟨n - 1, by omega⟩
        rw [← i3 k n (by omega) (by omega)]
        have c1 := h1 k (by omega)
        have c2 := h2 k (by omega)
        have c3 := s1 k (by omega)
        have c4 := s2 k (by omega)
        have c5 := s3 k (by omega)
        show Lshuntref01_Divide_0s k (Lshuntref01_Divide_0 k n) _ = _
        unfold Lshuntref01_Divide_0s
        simp only [eitherK]
        simp (config := { implicitDefEqProofs := false, maxSteps := 2000000 }) (disch := omega) only [ps, ↓reduceIte, reduceCtorEq, Int.reduceLT, Int.reduceLE, Int.reduceEq, Nat.reduceLT, Nat.reduceLeDiff, Nat.reduceEqDiff, Int.reduceNeg, eitherK, hx1, hx2, c1, c2, c3, c4, c5, htl, List.take_succ_cons, List.cons_append]
end Go.Proofs.Ytjgpegpjmkgkkaa.Am

/- Plain reckoning: numbers lent and looked at again; the reference's calls of two numbers. -/
set_option linter.unusedVariables false
set_option linter.unusedSimpArgs false
set_option maxRecDepth 10000
namespace Go.Proofs.Ytjgpegpjmkgkkaa.Am
open Go

/-- The mark behind a number that is lent. -/
abbrev mk (a1 : List Int) : List Int := a1 ++ [11259375]
section
variable {a0 b0 : Bool} {a1 b1 : List Int} (la : a1.length ≤ 9223372036854775807) (lb : b1.length ≤ 9223372036854775807) (da : Dg W a1) (db : Dg W b1)
include la lb da db
end
end Go.Proofs.Ytjgpegpjmkgkkaa.Am

/- Plain reckoning: the reference's division and common divisor, whole. -/
set_option linter.unusedVariables false
set_option linter.unusedSimpArgs false
set_option maxRecDepth 10000
namespace Go.Proofs.Ytjgpegpjmkgkkaa.Am
open Go

set_option maxHeartbeats 1000000 in
theorem Divide_ev (a0 b0 : Bool) (a1 b1 : List Int) {x y : Int} (nx : Nm U a0 a1 x) (ny : Nm U b0 b1 y) (hla : a1.length ≤ 800000) (hlb : b1.length ≤ 800000) (hb0 : b1 ≠ []) :
    ∃ s q t r, Rn (fun k => Fshuntref01_Divide k a0 a1 b0 b1) (s, q, t, r) ∧ Nm U s q (x.tdiv y) ∧ Nm U t r (x.tmod y) ∧ q.length ≤ a1.length ∧ r.length ≤ b1.length := by
  have hb : 0 < V U b1 := by
    have p := V_nonneg (B := U) (by decide) ny.c.1
    have := mt (ny.c.nil_iff (B := U) (by decide)).2 hb0
    omega
  have pa := V_nonneg (B := U) (by decide) nx.c.1
  obtain ⟨qs, r, z, hz, ⟨lq, dq, cr, hr, hv⟩, K, hl⟩ := div_loop a0 b0 a1 b1 nx.c.1 ny.c hb hla hlb a1.length (List.replicate a1.length 0) [] _ (Nat.le_refl _) (by simp) (Dg.rep _ (by decide)) Cn.nil (by simpa [V] using hb) (by
    rw [List.drop_of_length_le (by simp), List.drop_of_length_le (by simp)]; simp [V]) (.inl ⟨[], [], [], rfl, by simp, rfl⟩)
  have hr0 := V_nonneg (B := U) (by decide) cr.1
  have hu := rdiv_uniq hv hr0 hr
  have cq : Cn U (tl qs) := Cn.of dq
  have e1 := rtdiv_sg a0 b0 (Y := V U b1) pa
  have e2 := rtmod_sg a0 b0 (Y := V U b1) pa
  rw [nx.z, ny.z, ← hu.1] at e1
  rw [nx.z, ny.z, ← hu.2] at e2
  have n1 := nm_sg (a0 := !(a0 == b0)) cq (V_tl qs)
  have n2 := nm_sg (a0 := a0) cr rfl
  have ltq := tl_len qs
  refine ⟨_, _, _, _, ?_, n1.cast e1.symm, n2.cast e2.symm, by omega, ?_⟩
  · refine Rn.up (f := fun k => Fshuntref01_Divide k a0 a1 b0 b1) (Rn.eq (K + a1.length + 4) fun k hk => ?_)
    show bshuntref01_Divide k a0 a1 b0 b1 = _
    unfold bshuntref01_Divide
    have hdec : ∀ l : List Int, decide ((0 : Int) < (l.length : Int)) = decide (0 < l.length) := fun l => by congr 1; simp
    have h1 : Lshuntref01_Divide_0 k k (Sum.inl (a1.length, 0, (a1.length : Int) - 1, a0, a1, b0, b1, false, 0, false, 0, List.replicate a1.length 0, [], [], [])) = some z := hl k k (by omega) (by omega)
    have h2 := rtrim_eq qs (by omega) k (by omega)
    rw [lq] at h2
    have h3 := tl_take qs
    rcases hz with ⟨mem, m1, m2, rfl, g1, g2⟩ | ⟨m1, m2, rfl⟩
    · simp (config := { implicitDefEqProofs := false, maxSteps := 2000000 }) (disch := omega) only [ps, ↓reduceIte, reduceCtorEq, Int.reduceLT, Int.reduceLE, Int.reduceEq, Nat.reduceLT, Nat.reduceLeDiff, Nat.reduceEqDiff, Int.reduceNeg, eitherK, h1]
      simp (config := { implicitDefEqProofs := false, maxSteps := 2000000 }) (disch := omega) only [ps, ↓reduceIte, reduceCtorEq, Int.reduceLT, Int.reduceLE, Int.reduceEq, Nat.reduceLT, Nat.reduceLeDiff, Nat.reduceEqDiff, Int.reduceNeg, eitherK, h2, g1]
      cases a0 <;> cases b0 <;> simp (config := { implicitDefEqProofs := false, maxSteps := 2000000 }) (disch := omega) only [ps, ↓reduceIte, reduceCtorEq, Int.reduceLT, Int.reduceLE, Int.reduceEq, Nat.reduceLT, Nat.reduceLeDiff, Nat.reduceEqDiff, Int.reduceNeg, eitherK, h3, g2, hdec, if_true, if_false]
    · simp (config := { implicitDefEqProofs := false, maxSteps := 2000000 }) (disch := omega) only [ps, ↓reduceIte, reduceCtorEq, Int.reduceLT, Int.reduceLE, Int.reduceEq, Nat.reduceLT, Nat.reduceLeDiff, Nat.reduceEqDiff, Int.reduceNeg, eitherK, h1]
      simp (config := { implicitDefEqProofs := false, maxSteps := 2000000 }) (disch := omega) only [ps, ↓reduceIte, reduceCtorEq, Int.reduceLT, Int.reduceLE, Int.reduceEq, Nat.reduceLT, Nat.reduceLeDiff, Nat.reduceEqDiff, Int.reduceNeg, eitherK, h2]
      cases a0 <;> cases b0 <;> simp (config := { implicitDefEqProofs := false, maxSteps := 2000000 }) (disch := omega) only [ps, ↓reduceIte, reduceCtorEq, Int.reduceLT, Int.reduceLE, Int.reduceEq, Nat.reduceLT, Nat.reduceLeDiff, Nat.reduceEqDiff, Int.reduceNeg, eitherK, h3, hdec, if_true, if_false]
  · refine Nat.le_of_not_lt fun hlt => ?_
    have := Cn.len_lt (B := U) (by decide) ny.c cr hlt
    omega
theorem common_loop (x0 : Bool) (x1 : Nat) (m : List Int) (M : Nat) (hM : M ≤ 800000) : ∀ (N : Nat) (a b : List Int), V U b ≤ N → Cn U a → Cn U b → a.length ≤ M → b.length ≤ M →
    ∃ l b1, (∃ K, ∀ k n, K ≤ k → N < n → Lshuntref01_Common_0 k n false a false b x0 x1 m = some (false, l, false, b1, x0, x1, m)) ∧ Cn U l ∧ V U l = Int.gcd (V U a) (V U b) ∧ l.length ≤ M := by
  intro N
  induction N using Nat.strongRecOn with
  | ind N ih =>
    intro a b hN ca cb ha hb
    have pa := V_nonneg (B := U) (by decide) ca.1
    by_cases h0 : b = []
    · subst h0
      refine ⟨a, [], ⟨0, fun k n _ hn => ?_⟩, ca, by simp [V]; omega, ha⟩
      obtain ⟨n, rfl⟩ : ∃ m, n = m + 1 := ⟨n - 1, by omega⟩
      show Lshuntref01_Common_0s k (Lshuntref01_Common_0 k n) _ _ _ _ _ _ _ = _
      unfold Lshuntref01_Common_0s
      simp (config := { implicitDefEqProofs := false, maxSteps := 2000000 }) (disch := omega) only [ps, ↓reduceIte, reduceCtorEq, Int.reduceLT, Int.reduceLE, Int.reduceEq, Nat.reduceLT, Nat.reduceLeDiff, Nat.reduceEqDiff, Int.reduceNeg, eitherK]
    · have pb : 0 < V U b := by
        have p := V_nonneg (B := U) (by decide) cb.1
        have := mt (cb.nil_iff (B := U) (by decide)).2 h0
        omega
      obtain ⟨s, q, t, r, ⟨K1, h1⟩, h2, h3, h4, h5⟩ := Divide_ev false false a b (nm_pos ca rfl) (nm_pos cb rfl) (by omega) (by omega) h0
      have hr0 := Int.emod_nonneg (V U a) (show V U b ≠ 0 by omega)
      have hr1 := Int.emod_lt_of_pos (V U a) pb
      rw [tmod_pos pa] at h3
      obtain ⟨R, hR⟩ := Int.eq_ofNat_of_zero_le hr0
      have ht : t = false := by rw [h3.neg (by decide)]; simp; omega
      subst ht
      have hvr : V U r = R := by rw [h3.abs (by decide), hR]; rfl
      obtain ⟨l, b1, ⟨K2, i1⟩, i2, i3, i4⟩ := ih R (by omega) b r (by omega) cb h3.c hb (by omega)
      refine ⟨l, b1, ⟨max K1 K2, fun k n hk hn => ?_⟩, i2, ?_, i4⟩
      · obtain ⟨n, rfl⟩ : ∃ m, n = m + 1 := ⟨n - 1, by omega⟩
        rw [← i1 k n (by omega) (by omega)]
        have c1 := h1 k (by omega)
        have lb : 0 < b.length := by
          cases b with
          | nil => exact absurd rfl h0
          | cons _ _ => simp
        show Lshuntref01_Common_0s k (Lshuntref01_Common_0 k n) _ _ _ _ _ _ _ = _
        unfold Lshuntref01_Common_0s
        simp (config := { implicitDefEqProofs := false, maxSteps := 2000000 }) (disch := omega) only [ps, ↓reduceIte, reduceCtorEq, Int.reduceLT, Int.reduceLE, Int.reduceEq, Nat.reduceLT, Nat.reduceLeDiff, Nat.reduceEqDiff, Int.reduceNeg, eitherK, c1]
      · rw [i3, hvr, ← hR]
        obtain ⟨A, hA⟩ := Int.eq_ofNat_of_zero_le pa
        obtain ⟨B, hB⟩ := Int.eq_ofNat_of_zero_le (Int.le_of_lt pb)
        rw [hA, hB]
        show (((Int.gcd (B : Int) ((A % B : Nat) : Int)) : Nat) : Int) = _
        rw [Int.gcd_natCast_natCast, Int.gcd_natCast_natCast, Nat.gcd_comm, ← Nat.gcd_rec, Nat.gcd_comm]
theorem Common_ev (a0 b0 : Bool) (a1 b1 : List Int) {x y : Int} (nx : Nm U a0 a1 x) (ny : Nm U b0 b1 y) (hx : a1.length ≤ 800000) (hy : b1.length ≤ 800000) :
    ∃ l, Rn (fun k => Fshuntref01_Common k a0 a1 b0 b1) (false, l) ∧ Nm U false l (Int.gcd x y) ∧ l.length ≤ max a1.length b1.length := by
  obtain ⟨N, hN⟩ := Int.eq_ofNat_of_zero_le (V_nonneg (B := U) (by decide) ny.c.1)
  obtain ⟨l, b', ⟨K, h1⟩, h2, h3, h4⟩ := common_loop false 0 [] (max a1.length b1.length) (by omega) N a1 b1 (by omega) nx.c ny.c (by omega) (by omega)
  have e : (Int.gcd (V U a1) (V U b1) : Int) = Int.gcd x y := by
    have e1 := nx.z
    have e2 := ny.z
    rw [← e1, ← e2]
    cases a0 <;> cases b0 <;> simp
  refine ⟨l, Rn.up (f := fun k => Fshuntref01_Common k a0 a1 b0 b1) ?_, nm_pos h2 (by rw [h3, e]), h4⟩
  have q1 : Rn (fun k => Fshuntref01_Abs k a0 a1) (false, a1) := Rn.up (f := fun k => Fshuntref01_Abs k a0 a1) (Rn.pure _)
  have q2 : Rn (fun k => Fshuntref01_Abs k b0 b1) (false, b1) := Rn.up (f := fun k => Fshuntref01_Abs k b0 b1) (Rn.pure _)
  refine Rn.bind (f := fun k => Fshuntref01_Abs k a0 a1) q1 (Rn.bind q2 ?_)
  exact Rn.bind (x := (false, l, false, b', false, 0, [])) (Rn.eq (K + N + 1) fun k hk => h1 k k (by omega) (by omega)) (Rn.pure _)
section
variable {a0 b0 : Bool} {a1 b1 : List Int} (la : a1.length ≤ 9223372036854775807) (lb : b1.length ≤ 9223372036854775807) (da : Dg W a1) (db : Dg W b1)
include la lb da db
end
end Go.Proofs.Ytjgpegpjmkgkkaa.Am

/- Plain reckoning: right fractions, and the layer's calls of two of them. -/
set_option linter.unusedVariables false
set_option linter.unusedSectionVars false
set_option linter.unusedSimpArgs false
set_option maxRecDepth 10000
namespace Go.Proofs.Ytjgpegpjmkgkkaa.Am
open Go

/-- What a fraction is refused for. -/
def faultR (n0 : Bool) (n1 : List Int) (d0 : Bool) (d1 : List Int) : Int :=
  if Ri n0 n1 ∧ Ri d0 d1 then (if d0 = false ∧ d1 ≠ [] ∧ Int.gcd (Zv W n0 n1) (Zv W d0 d1) = 1 then 0 else 20) else 10
theorem faultR_cases (n0 : Bool) (n1 : List Int) (d0 : Bool) (d1 : List Int) : faultR n0 n1 d0 d1 = 0 ∨ faultR n0 n1 d0 d1 = 10 ∨ faultR n0 n1 d0 d1 = 20 := by
  unfold faultR
  split
  · split
    · exact .inl rfl
    · exact .inr (.inr rfl)
  · exact .inr (.inl rfl)
theorem zv_pos {d1 : List Int} {d0 : Bool} (h0 : d0 = false) (hne : d1 ≠ []) (cd : Cn W d1) : 0 < Zv W d0 d1 := by
  subst h0
  have p := V_nonneg (B := W) (by decide) cd.1
  have q := mt (cd.nil_iff (B := W) (by decide)).2 hne
  simp [Zv]; omega
theorem num_of_one {x y : Int} (hy : 0 < y) (hg : Int.gcd x y = 1) : (Rat.divInt x y).num = x ∧ ((Rat.divInt x y).den : Int) = y := by
  refine ⟨?_, ?_⟩
  · rw [num_eq x (by omega), if_neg (by omega), hg]; simp
  · rw [den_eq x (by omega), if_neg (by omega), hg]; simp
theorem fault_fr {n0 d0 : Bool} {n1 d1 : List Int} (dn : Dg W n1) (dd : Dg W d1) (h : faultR n0 n1 d0 d1 = 0) : ∃ q, Fr n0 n1 d0 d1 q ∧ n1.length ≤ 72 ∧ d1.length ≤ 72 := by
  unfold faultR at h
  split at h
  · rename_i hr
    split at h
    · rename_i hc
      obtain ⟨h1, h2, h3⟩ := hc
      have a := hr.1.nm dn
      have b := hr.2.nm dd
      obtain ⟨e1, e2⟩ := num_of_one (zv_pos h1 h2 b.c) h3
      exact ⟨Rat.divInt (Zv W n0 n1) (Zv W d0 d1), ⟨a.cast e1.symm, b.cast e2.symm⟩, hr.1.1, hr.2.1⟩
    · cases h
  · cases h
theorem fr_fault {n0 d0 : Bool} {n1 d1 : List Int} {q : Rat} (h : Fr n0 n1 d0 d1 q) (l1 : n1.length ≤ 72) (l3 : d1.length ≤ 72) : faultR n0 n1 d0 d1 = 0 := by
  unfold faultR
  rw [if_pos ⟨h.1.ri l1, h.2.ri l3⟩, if_pos]
  refine ⟨h.d0, h.ne, ?_⟩
  rw [show Zv W n0 n1 = q.num from h.1.z, show Zv W d0 d1 = q.den from h.2.z]
  have := q.reduced
  show Nat.gcd q.num.natAbs (q.den : Int).natAbs = 1
  rw [Int.natAbs_natCast]
  exact this
theorem one_iff {l : List Int} {g : Nat} (h : Nm W false l g) : l = [1] ↔ g = 1 := by
  have hc : Cn W [1] := ⟨Dg.cons (by decide) Dg.nil, rfl⟩
  have hv := h.abs (by decide)
  constructor
  · rintro rfl
    simp [V] at hv
    omega
  · rintro rfl
    refine Cn.ext (B := W) (by decide) h.c hc ?_
    rw [hv]; simp [V]
section
variable {n0 d0 : Bool} {n1 d1 : List Int} (la : n1.length ≤ 9223372036854775807) (lb : d1.length ≤ 9223372036854775807) (da : Dg W n1) (db : Dg W d1)
include la lb da db
theorem ratCheck_ev : Rn (fun k => Frat_Check k n0 n1 d0 d1) (faultR n0 n1 d0 d1) := by
  refine Rn.up (f := fun k => Frat_Check k n0 n1 d0 d1) ?_
  show Rn (fun k => brat_Check k n0 n1 d0 d1) _
  unfold brat_Check
  refine Rn.bind (check_ev n0 n1 la da) ?_
  by_cases hn : Ri n0 n1
  case neg =>
    have e : faultR n0 n1 d0 d1 = 10 := if_neg (fun c => hn c.1)
    rw [e, if_neg hn]
    (first | (refine Rn.t ?hc ?_; case hc => simp (config := { implicitDefEqProofs := false, maxSteps := 2000000 }) (disch := omega) only [ps, ↓reduceIte, reduceCtorEq, Int.reduceLT, Int.reduceLE, Int.reduceEq, Nat.reduceLT, Nat.reduceLeDiff, Nat.reduceEqDiff, Int.reduceNeg, eitherK]) | (refine Rn.f ?hc ?_; case hc => simp (config := { implicitDefEqProofs := false, maxSteps := 2000000 }) (disch := omega) only [ps, ↓reduceIte, reduceCtorEq, Int.reduceLT, Int.reduceLE, Int.reduceEq, Nat.reduceLT, Nat.reduceLeDiff, Nat.reduceEqDiff, Int.reduceNeg, eitherK]))
    exact Rn.pure _
  rw [if_pos hn]
  (first | (refine Rn.t ?hc ?_; case hc => simp (config := { implicitDefEqProofs := false, maxSteps := 2000000 }) (disch := omega) only [ps, ↓reduceIte, reduceCtorEq, Int.reduceLT, Int.reduceLE, Int.reduceEq, Nat.reduceLT, Nat.reduceLeDiff, Nat.reduceEqDiff, Int.reduceNeg, eitherK]) | (refine Rn.f ?hc ?_; case hc => simp (config := { implicitDefEqProofs := false, maxSteps := 2000000 }) (disch := omega) only [ps, ↓reduceIte, reduceCtorEq, Int.reduceLT, Int.reduceLE, Int.reduceEq, Nat.reduceLT, Nat.reduceLeDiff, Nat.reduceEqDiff, Int.reduceNeg, eitherK]))
  refine Rn.bind (check_ev d0 d1 lb db) ?_
  by_cases hd : Ri d0 d1
  case neg =>
    have e : faultR n0 n1 d0 d1 = 10 := if_neg (fun c => hd c.2)
    rw [e, if_neg hd]
    (first | (refine Rn.t ?hc ?_; case hc => simp (config := { implicitDefEqProofs := false, maxSteps := 2000000 }) (disch := omega) only [ps, ↓reduceIte, reduceCtorEq, Int.reduceLT, Int.reduceLE, Int.reduceEq, Nat.reduceLT, Nat.reduceLeDiff, Nat.reduceEqDiff, Int.reduceNeg, eitherK]) | (refine Rn.f ?hc ?_; case hc => simp (config := { implicitDefEqProofs := false, maxSteps := 2000000 }) (disch := omega) only [ps, ↓reduceIte, reduceCtorEq, Int.reduceLT, Int.reduceLE, Int.reduceEq, Nat.reduceLT, Nat.reduceLeDiff, Nat.reduceEqDiff, Int.reduceNeg, eitherK]))
    exact Rn.pure _
  rw [if_pos hd]
  (first | (refine Rn.t ?hc ?_; case hc => simp (config := { implicitDefEqProofs := false, maxSteps := 2000000 }) (disch := omega) only [ps, ↓reduceIte, reduceCtorEq, Int.reduceLT, Int.reduceLE, Int.reduceEq, Nat.reduceLT, Nat.reduceLeDiff, Nat.reduceEqDiff, Int.reduceNeg, eitherK]) | (refine Rn.f ?hc ?_; case hc => simp (config := { implicitDefEqProofs := false, maxSteps := 2000000 }) (disch := omega) only [ps, ↓reduceIte, reduceCtorEq, Int.reduceLT, Int.reduceLE, Int.reduceEq, Nat.reduceLT, Nat.reduceLeDiff, Nat.reduceEqDiff, Int.reduceNeg, eitherK]))
  have e0 : faultR n0 n1 d0 d1 = if d0 = false ∧ d1 ≠ [] ∧ Int.gcd (Zv W n0 n1) (Zv W d0 d1) = 1 then 0 else 20 := if_pos ⟨hn, hd⟩
  cases d0
  case true =>
    rw [e0.trans (if_neg (fun c => by cases c.1))]
    (first | (refine Rn.t ?hc ?_; case hc => simp (config := { implicitDefEqProofs := false, maxSteps := 2000000 }) (disch := omega) only [ps, ↓reduceIte, reduceCtorEq, Int.reduceLT, Int.reduceLE, Int.reduceEq, Nat.reduceLT, Nat.reduceLeDiff, Nat.reduceEqDiff, Int.reduceNeg, eitherK]) | (refine Rn.f ?hc ?_; case hc => simp (config := { implicitDefEqProofs := false, maxSteps := 2000000 }) (disch := omega) only [ps, ↓reduceIte, reduceCtorEq, Int.reduceLT, Int.reduceLE, Int.reduceEq, Nat.reduceLT, Nat.reduceLeDiff, Nat.reduceEqDiff, Int.reduceNeg, eitherK]))
    exact Rn.pure _
  (first | (refine Rn.t ?hc ?_; case hc => simp (config := { implicitDefEqProofs := false, maxSteps := 2000000 }) (disch := omega) only [ps, ↓reduceIte, reduceCtorEq, Int.reduceLT, Int.reduceLE, Int.reduceEq, Nat.reduceLT, Nat.reduceLeDiff, Nat.reduceEqDiff, Int.reduceNeg, eitherK]) | (refine Rn.f ?hc ?_; case hc => simp (config := { implicitDefEqProofs := false, maxSteps := 2000000 }) (disch := omega) only [ps, ↓reduceIte, reduceCtorEq, Int.reduceLT, Int.reduceLE, Int.reduceEq, Nat.reduceLT, Nat.reduceLeDiff, Nat.reduceEqDiff, Int.reduceNeg, eitherK]))
  by_cases h0 : d1 = []
  · rw [e0.trans (if_neg (fun c => c.2.1 h0))]
    subst h0
    (first | (refine Rn.t ?hc ?_; case hc => simp (config := { implicitDefEqProofs := false, maxSteps := 2000000 }) (disch := omega) only [ps, ↓reduceIte, reduceCtorEq, Int.reduceLT, Int.reduceLE, Int.reduceEq, Nat.reduceLT, Nat.reduceLeDiff, Nat.reduceEqDiff, Int.reduceNeg, eitherK]) | (refine Rn.f ?hc ?_; case hc => simp (config := { implicitDefEqProofs := false, maxSteps := 2000000 }) (disch := omega) only [ps, ↓reduceIte, reduceCtorEq, Int.reduceLT, Int.reduceLE, Int.reduceEq, Nat.reduceLT, Nat.reduceLeDiff, Nat.reduceEqDiff, Int.reduceNeg, eitherK]))
    exact Rn.pure _
  · have l0 : 0 < d1.length := by
      cases d1 with
      | nil => exact absurd rfl h0
      | cons _ _ => simp
    (first | (refine Rn.t ?hc ?_; case hc => simp (config := { implicitDefEqProofs := false, maxSteps := 2000000 }) (disch := omega) only [ps, ↓reduceIte, reduceCtorEq, Int.reduceLT, Int.reduceLE, Int.reduceEq, Nat.reduceLT, Nat.reduceLeDiff, Nat.reduceEqDiff, Int.reduceNeg, eitherK]) | (refine Rn.f ?hc ?_; case hc => simp (config := { implicitDefEqProofs := false, maxSteps := 2000000 }) (disch := omega) only [ps, ↓reduceIte, reduceCtorEq, Int.reduceLT, Int.reduceLE, Int.reduceEq, Nat.reduceLT, Nat.reduceLeDiff, Nat.reduceEqDiff, Int.reduceNeg, eitherK]))
    obtain ⟨l, g1, g2, g3⟩ := limbGcd_ev la lb da db hn hd
    refine Rn.bind g1 ?_
    have ho := one_iff g2
    by_cases hg : Int.gcd (Zv W n0 n1) (Zv W false d1) = 1
    · rw [e0.trans (if_pos ⟨rfl, h0, hg⟩)]
      have hl := ho.2 hg
      subst hl
      (first | (refine Rn.t ?hc ?_; case hc => simp (config := { implicitDefEqProofs := false, maxSteps := 2000000 }) (disch := omega) only [ps, ↓reduceIte, reduceCtorEq, Int.reduceLT, Int.reduceLE, Int.reduceEq, Nat.reduceLT, Nat.reduceLeDiff, Nat.reduceEqDiff, Int.reduceNeg, eitherK, List.length_cons]) | (refine Rn.f ?hc ?_; case hc => simp (config := { implicitDefEqProofs := false, maxSteps := 2000000 }) (disch := omega) only [ps, ↓reduceIte, reduceCtorEq, Int.reduceLT, Int.reduceLE, Int.reduceEq, Nat.reduceLT, Nat.reduceLeDiff, Nat.reduceEqDiff, Int.reduceNeg, eitherK, List.length_cons]))
      refine Rn.at (x := 1) rfl ?_
      (first | (refine Rn.t ?hc ?_; case hc => simp (config := { implicitDefEqProofs := false, maxSteps := 2000000 }) (disch := omega) only [ps, ↓reduceIte, reduceCtorEq, Int.reduceLT, Int.reduceLE, Int.reduceEq, Nat.reduceLT, Nat.reduceLeDiff, Nat.reduceEqDiff, Int.reduceNeg, eitherK]) | (refine Rn.f ?hc ?_; case hc => simp (config := { implicitDefEqProofs := false, maxSteps := 2000000 }) (disch := omega) only [ps, ↓reduceIte, reduceCtorEq, Int.reduceLT, Int.reduceLE, Int.reduceEq, Nat.reduceLT, Nat.reduceLeDiff, Nat.reduceEqDiff, Int.reduceNeg, eitherK]))
      exact Rn.pure _
    · rw [e0.trans (if_neg (fun c => hg c.2.2))]
      by_cases hlen : l.length = 1
      · obtain ⟨x, rfl⟩ : ∃ x, l = [x] := by
          match l, hlen with
          | [x], _ => exact ⟨x, rfl⟩
        (first | (refine Rn.t ?hc ?_; case hc => simp (config := { implicitDefEqProofs := false, maxSteps := 2000000 }) (disch := omega) only [ps, ↓reduceIte, reduceCtorEq, Int.reduceLT, Int.reduceLE, Int.reduceEq, Nat.reduceLT, Nat.reduceLeDiff, Nat.reduceEqDiff, Int.reduceNeg, eitherK, List.length_cons]) | (refine Rn.f ?hc ?_; case hc => simp (config := { implicitDefEqProofs := false, maxSteps := 2000000 }) (disch := omega) only [ps, ↓reduceIte, reduceCtorEq, Int.reduceLT, Int.reduceLE, Int.reduceEq, Nat.reduceLT, Nat.reduceLeDiff, Nat.reduceEqDiff, Int.reduceNeg, eitherK, List.length_cons]))
        refine Rn.at (x := x) rfl ?_
        have hx : x ≠ 1 := fun h => hg (ho.1 (by rw [h]))
        (first | (refine Rn.t ?hc ?_; case hc => simp (config := { implicitDefEqProofs := false, maxSteps := 2000000 }) (disch := omega) only [ps, ↓reduceIte, reduceCtorEq, Int.reduceLT, Int.reduceLE, Int.reduceEq, Nat.reduceLT, Nat.reduceLeDiff, Nat.reduceEqDiff, Int.reduceNeg, eitherK]) | (refine Rn.f ?hc ?_; case hc => simp (config := { implicitDefEqProofs := false, maxSteps := 2000000 }) (disch := omega) only [ps, ↓reduceIte, reduceCtorEq, Int.reduceLT, Int.reduceLE, Int.reduceEq, Nat.reduceLT, Nat.reduceLeDiff, Nat.reduceEqDiff, Int.reduceNeg, eitherK]))
        exact Rn.pure _
      · (first | (refine Rn.t ?hc ?_; case hc => simp (config := { implicitDefEqProofs := false, maxSteps := 2000000 }) (disch := omega) only [ps, ↓reduceIte, reduceCtorEq, Int.reduceLT, Int.reduceLE, Int.reduceEq, Nat.reduceLT, Nat.reduceLeDiff, Nat.reduceEqDiff, Int.reduceNeg, eitherK]) | (refine Rn.f ?hc ?_; case hc => simp (config := { implicitDefEqProofs := false, maxSteps := 2000000 }) (disch := omega) only [ps, ↓reduceIte, reduceCtorEq, Int.reduceLT, Int.reduceLE, Int.reduceEq, Nat.reduceLT, Nat.reduceLeDiff, Nat.reduceEqDiff, Int.reduceNeg, eitherK]))
        exact Rn.pure _
theorem refFault_ev : Rn (fun k => Fshuntref02_Fault k n0 n1 d0 d1) (faultR n0 n1 d0 d1) := by
  refine Rn.up (f := fun k => Fshuntref02_Fault k n0 n1 d0 d1) ?_
  show Rn (fun k => bshuntref02_Fault k n0 n1 d0 d1) _
  unfold bshuntref02_Fault
  refine Rn.bind (right_ev n0 n1 la da) ?_
  by_cases hn : Ri n0 n1
  case neg =>
    have e : faultR n0 n1 d0 d1 = 10 := if_neg (fun c => hn c.1)
    rw [e]
    (first | (refine Rn.t ?hc ?_; case hc => simp (config := { implicitDefEqProofs := false, maxSteps := 2000000 }) (disch := omega) only [ps, ↓reduceIte, reduceCtorEq, Int.reduceLT, Int.reduceLE, Int.reduceEq, Nat.reduceLT, Nat.reduceLeDiff, Nat.reduceEqDiff, Int.reduceNeg, eitherK, hn, decide_false]) | (refine Rn.f ?hc ?_; case hc => simp (config := { implicitDefEqProofs := false, maxSteps := 2000000 }) (disch := omega) only [ps, ↓reduceIte, reduceCtorEq, Int.reduceLT, Int.reduceLE, Int.reduceEq, Nat.reduceLT, Nat.reduceLeDiff, Nat.reduceEqDiff, Int.reduceNeg, eitherK, hn, decide_false]))
    exact Rn.pure _
  (first | (refine Rn.t ?hc ?_; case hc => simp (config := { implicitDefEqProofs := false, maxSteps := 2000000 }) (disch := omega) only [ps, ↓reduceIte, reduceCtorEq, Int.reduceLT, Int.reduceLE, Int.reduceEq, Nat.reduceLT, Nat.reduceLeDiff, Nat.reduceEqDiff, Int.reduceNeg, eitherK, hn, decide_true]) | (refine Rn.f ?hc ?_; case hc => simp (config := { implicitDefEqProofs := false, maxSteps := 2000000 }) (disch := omega) only [ps, ↓reduceIte, reduceCtorEq, Int.reduceLT, Int.reduceLE, Int.reduceEq, Nat.reduceLT, Nat.reduceLeDiff, Nat.reduceEqDiff, Int.reduceNeg, eitherK, hn, decide_true]))
  refine Rn.bind (right_ev d0 d1 lb db) ?_
  by_cases hd : Ri d0 d1
  case neg =>
    have e : faultR n0 n1 d0 d1 = 10 := if_neg (fun c => hd c.2)
    rw [e]
    (first | (refine Rn.t ?hc ?_; case hc => simp (config := { implicitDefEqProofs := false, maxSteps := 2000000 }) (disch := omega) only [ps, ↓reduceIte, reduceCtorEq, Int.reduceLT, Int.reduceLE, Int.reduceEq, Nat.reduceLT, Nat.reduceLeDiff, Nat.reduceEqDiff, Int.reduceNeg, eitherK, hd, decide_false]) | (refine Rn.f ?hc ?_; case hc => simp (config := { implicitDefEqProofs := false, maxSteps := 2000000 }) (disch := omega) only [ps, ↓reduceIte, reduceCtorEq, Int.reduceLT, Int.reduceLE, Int.reduceEq, Nat.reduceLT, Nat.reduceLeDiff, Nat.reduceEqDiff, Int.reduceNeg, eitherK, hd, decide_false]))
    exact Rn.pure _
  (first | (refine Rn.t ?hc ?_; case hc => simp (config := { implicitDefEqProofs := false, maxSteps := 2000000 }) (disch := omega) only [ps, ↓reduceIte, reduceCtorEq, Int.reduceLT, Int.reduceLE, Int.reduceEq, Nat.reduceLT, Nat.reduceLeDiff, Nat.reduceEqDiff, Int.reduceNeg, eitherK, hd, decide_true]) | (refine Rn.f ?hc ?_; case hc => simp (config := { implicitDefEqProofs := false, maxSteps := 2000000 }) (disch := omega) only [ps, ↓reduceIte, reduceCtorEq, Int.reduceLT, Int.reduceLE, Int.reduceEq, Nat.reduceLT, Nat.reduceLeDiff, Nat.reduceEqDiff, Int.reduceNeg, eitherK, hd, decide_true]))
  have e0 : faultR n0 n1 d0 d1 = if d0 = false ∧ d1 ≠ [] ∧ Int.gcd (Zv W n0 n1) (Zv W d0 d1) = 1 then 0 else 20 := if_pos ⟨hn, hd⟩
  cases d0
  case true =>
    rw [e0.trans (if_neg (fun c => by cases c.1))]
    (first | (refine Rn.t ?hc ?_; case hc => simp (config := { implicitDefEqProofs := false, maxSteps := 2000000 }) (disch := omega) only [ps, ↓reduceIte, reduceCtorEq, Int.reduceLT, Int.reduceLE, Int.reduceEq, Nat.reduceLT, Nat.reduceLeDiff, Nat.reduceEqDiff, Int.reduceNeg, eitherK]) | (refine Rn.f ?hc ?_; case hc => simp (config := { implicitDefEqProofs := false, maxSteps := 2000000 }) (disch := omega) only [ps, ↓reduceIte, reduceCtorEq, Int.reduceLT, Int.reduceLE, Int.reduceEq, Nat.reduceLT, Nat.reduceLeDiff, Nat.reduceEqDiff, Int.reduceNeg, eitherK]))
    exact Rn.pure _
  (first | (refine Rn.t ?hc ?_; case hc => simp (config := { implicitDefEqProofs := false, maxSteps := 2000000 }) (disch := omega) only [ps, ↓reduceIte, reduceCtorEq, Int.reduceLT, Int.reduceLE, Int.reduceEq, Nat.reduceLT, Nat.reduceLeDiff, Nat.reduceEqDiff, Int.reduceNeg, eitherK]) | (refine Rn.f ?hc ?_; case hc => simp (config := { implicitDefEqProofs := false, maxSteps := 2000000 }) (disch := omega) only [ps, ↓reduceIte, reduceCtorEq, Int.reduceLT, Int.reduceLE, Int.reduceEq, Nat.reduceLT, Nat.reduceLeDiff, Nat.reduceEqDiff, Int.reduceNeg, eitherK]))
  by_cases h0 : d1 = []
  · rw [e0.trans (if_neg (fun c => c.2.1 h0))]
    subst h0
    (first | (refine Rn.t ?hc ?_; case hc => simp (config := { implicitDefEqProofs := false, maxSteps := 2000000 }) (disch := omega) only [ps, ↓reduceIte, reduceCtorEq, Int.reduceLT, Int.reduceLE, Int.reduceEq, Nat.reduceLT, Nat.reduceLeDiff, Nat.reduceEqDiff, Int.reduceNeg, eitherK]) | (refine Rn.f ?hc ?_; case hc => simp (config := { implicitDefEqProofs := false, maxSteps := 2000000 }) (disch := omega) only [ps, ↓reduceIte, reduceCtorEq, Int.reduceLT, Int.reduceLE, Int.reduceEq, Nat.reduceLT, Nat.reduceLeDiff, Nat.reduceEqDiff, Int.reduceNeg, eitherK]))
    exact Rn.pure _
  · have l0 : 0 < d1.length := by
      cases d1 with
      | nil => exact absurd rfl h0
      | cons _ _ => simp
    have k1 := hn.1
    have k2 := hd.1
    (first | (refine Rn.t ?hc ?_; case hc => simp (config := { implicitDefEqProofs := false, maxSteps := 2000000 }) (disch := omega) only [ps, ↓reduceIte, reduceCtorEq, Int.reduceLT, Int.reduceLE, Int.reduceEq, Nat.reduceLT, Nat.reduceLeDiff, Nat.reduceEqDiff, Int.reduceNeg, eitherK]) | (refine Rn.f ?hc ?_; case hc => simp (config := { implicitDefEqProofs := false, maxSteps := 2000000 }) (disch := omega) only [ps, ↓reduceIte, reduceCtorEq, Int.reduceLT, Int.reduceLE, Int.reduceEq, Nat.reduceLT, Nat.reduceLeDiff, Nat.reduceEqDiff, Int.reduceNeg, eitherK]))
    obtain ⟨l1, p1, p2, p3⟩ := rTake_ev n0 n1 (by omega) (hn.nm da)
    obtain ⟨l2, q1, q2, q3⟩ := rTake_ev false d1 (by omega) (hd.nm db)
    obtain ⟨l, r1, r2, r3⟩ := Common_ev n0 false l1 l2 p2 q2 (by omega) (by omega)
    obtain ⟨o, s1, s2, s3⟩ := Small_ev 1 (by decide)
    have hh := Held_ev false (decide ((1 : Int) < 0)) l o r2 s2 (by omega) (by omega)
    refine Rn.bind p1 (Rn.bind q1 (Rn.bind r1 (Rn.bind s1 (Rn.bind hh ?_))))
    obtain ⟨c, hc, hcc⟩ := cmpZ_cases ((Int.gcd (Zv W n0 n1) (Zv W false d1) : Nat) : Int) 1
    rw [hc]
    by_cases hg : Int.gcd (Zv W n0 n1) (Zv W false d1) = 1
    · rw [e0.trans (if_pos ⟨rfl, h0, hg⟩)]
      (first | (refine Rn.t ?hc ?_; case hc => simp (config := { implicitDefEqProofs := false, maxSteps := 2000000 }) (disch := omega) only [ps, ↓reduceIte, reduceCtorEq, Int.reduceLT, Int.reduceLE, Int.reduceEq, Nat.reduceLT, Nat.reduceLeDiff, Nat.reduceEqDiff, Int.reduceNeg, eitherK]) | (refine Rn.f ?hc ?_; case hc => simp (config := { implicitDefEqProofs := false, maxSteps := 2000000 }) (disch := omega) only [ps, ↓reduceIte, reduceCtorEq, Int.reduceLT, Int.reduceLE, Int.reduceEq, Nat.reduceLT, Nat.reduceLeDiff, Nat.reduceEqDiff, Int.reduceNeg, eitherK]))
      exact Rn.pure _
    · rw [e0.trans (if_neg (fun c => hg c.2.2))]
      (first | (refine Rn.t ?hc ?_; case hc => simp (config := { implicitDefEqProofs := false, maxSteps := 2000000 }) (disch := omega) only [ps, ↓reduceIte, reduceCtorEq, Int.reduceLT, Int.reduceLE, Int.reduceEq, Nat.reduceLT, Nat.reduceLeDiff, Nat.reduceEqDiff, Int.reduceNeg, eitherK]) | (refine Rn.f ?hc ?_; case hc => simp (config := { implicitDefEqProofs := false, maxSteps := 2000000 }) (disch := omega) only [ps, ↓reduceIte, reduceCtorEq, Int.reduceLT, Int.reduceLE, Int.reduceEq, Nat.reduceLT, Nat.reduceLeDiff, Nat.reduceEqDiff, Int.reduceNeg, eitherK]))
      exact Rn.pure _
end
/-- A fraction's words, as a list's element. -/
abbrev RT := (Bool × List Int) × Bool × List Int
def RT.f (r : RT) : Int := faultR r.1.1 r.1.2 r.2.1 r.2.2
def RT.good (r : RT) : Prop := (r.1.2.length ≤ 9223372036854775807 ∧ Dg W r.1.2) ∧ r.2.2.length ≤ 9223372036854775807 ∧ Dg W r.2.2
def faultsR : Int → List RT → Int
  | w, [] => w
  | w, r :: t => if r.f = 10 then 10 else if r.f = 20 then faultsR 20 t else faultsR w t
def outA (o : (Int × Bool × List Int × Bool × List Int) ⊕ Int) : Int := match o with
  | .inl r => r.1
  | .inr r => r
theorem all_loop (l : List RT) (hl : l.length ≤ 1000000000000000000) (hg : ∀ r ∈ l, r.good) : ∀ (d i : Nat) (w : Int), i + d = l.length → ∃ o, (∃ K, ∀ k n, K ≤ k → d < n → Lrat_all_0 k n w l l.length i = some o) ∧ outA o = faultsR w (l.drop i) := by
  intro d
  induction d with
  | zero =>
    intro i w hi
    refine ⟨.inr w, ⟨0, fun k n _ hn => ?_⟩, ?_⟩
    · obtain ⟨n, rfl⟩ : ∃ m, n = m + 1 := ⟨n - 1, by omega⟩
      show Lrat_all_0s k (Lrat_all_0 k n) _ _ _ _ = _
      unfold Lrat_all_0s
      simp (config := { implicitDefEqProofs := false, maxSteps := 2000000 }) (disch := omega) only [ps, ↓reduceIte, reduceCtorEq, Int.reduceLT, Int.reduceLE, Int.reduceEq, Nat.reduceLT, Nat.reduceLeDiff, Nat.reduceEqDiff, Int.reduceNeg, eitherK]
    · rw [List.drop_of_length_le (by omega)]; rfl
  | succ d ih =>
    intro i w hi
    have hil : i < l.length := by omega
    obtain ⟨r, hr⟩ : ∃ r, l[i]? = some r := ⟨l[i], List.getElem?_eq_getElem hil⟩
    have hdrop : l.drop i = r :: l.drop (i + 1) := by
      rw [List.drop_eq_getElem_cons hil]
      rw [List.getElem?_eq_getElem hil] at hr
      cases hr; rfl
    have hgr := hg r (List.mem_of_getElem? hr)
    obtain ⟨K, hc⟩ := ratCheck_ev (n0 := r.1.1) (d0 := r.2.1) hgr.1.1 hgr.2.1 hgr.1.2 hgr.2.2
    have h1 : ((i : Int) + 1) = ((i + 1 : Nat) : Int) := rfl
    rw [hdrop]
    have hcs := faultR_cases r.1.1 r.1.2 r.2.1 r.2.2
    have step : ∀ (o : (Int × Bool × List Int × Bool × List Int) ⊕ Int) (K' : Nat), (∀ k n, K' ≤ k → d < n → Lrat_all_0s k (Lrat_all_0 k n) w l l.length i = some o) → ∃ K, ∀ k n, K ≤ k → d + 1 < n → Lrat_all_0 k n w l l.length i = some o := by
      intro o K' h
      refine ⟨K', fun k n hk hn => ?_⟩
      obtain ⟨n, rfl⟩ : ∃ m, n = m + 1 := ⟨n - 1, by omega⟩
      exact h k n hk (by omega)
    rcases hcs with hf | hf | hf
    · obtain ⟨o, ⟨K2, i1⟩, i2⟩ := ih (i + 1) w (by omega)
      refine ⟨o, step o (max K K2) fun k n hk hn => ?_, by rw [i2]; simp only [faultsR, RT.f, hf]; rfl⟩
      have c := hc k (by omega)
      rw [hf] at c
      rw [← i1 k n (by omega) hn]
      unfold Lrat_all_0s
      simp (config := { implicitDefEqProofs := false, maxSteps := 2000000 }) (disch := omega) only [ps, ↓reduceIte, reduceCtorEq, Int.reduceLT, Int.reduceLE, Int.reduceEq, Nat.reduceLT, Nat.reduceLeDiff, Nat.reduceEqDiff, Int.reduceNeg, eitherK, hr, c, h1]
    · refine ⟨_, step (.inl (10, r.1.1, r.1.2, r.2.1, r.2.2)) K fun k n hk hn => ?_, by simp only [faultsR, RT.f, hf]; rfl⟩
      have c := hc k (by omega)
      rw [hf] at c
      unfold Lrat_all_0s
      simp (config := { implicitDefEqProofs := false, maxSteps := 2000000 }) (disch := omega) only [ps, ↓reduceIte, reduceCtorEq, Int.reduceLT, Int.reduceLE, Int.reduceEq, Nat.reduceLT, Nat.reduceLeDiff, Nat.reduceEqDiff, Int.reduceNeg, eitherK, hr, c]
    · obtain ⟨o, ⟨K2, i1⟩, i2⟩ := ih (i + 1) 20 (by omega)
      refine ⟨o, step o (max K K2) fun k n hk hn => ?_, by rw [i2]; simp only [faultsR, RT.f, hf]; rfl⟩
      have c := hc k (by omega)
      rw [hf] at c
      rw [← i1 k n (by omega) hn]
      unfold Lrat_all_0s
      simp (config := { implicitDefEqProofs := false, maxSteps := 2000000 }) (disch := omega) only [ps, ↓reduceIte, reduceCtorEq, Int.reduceLT, Int.reduceLE, Int.reduceEq, Nat.reduceLT, Nat.reduceLeDiff, Nat.reduceEqDiff, Int.reduceNeg, eitherK, hr, c, h1]
theorem all_ev (l : List RT) (hl : l.length ≤ 1000000000000000000) (hg : ∀ r ∈ l, r.good) : Rn (fun k => Frat_all k l) (faultsR 0 l) := by
  obtain ⟨o, ⟨K, h1⟩, h2⟩ := all_loop l hl hg l.length 0 0 (by omega)
  refine Rn.up (f := fun k => Frat_all k l) (Rn.eq (K + l.length + 1) fun k hk => ?_)
  show brat_all k l = _
  unfold brat_all
  have h1' : Lrat_all_0 k k 0 l l.length (0 : Int) = some o := h1 k k (by omega) (by omega)
  rw [h1', Option.bind_some]
  rw [List.drop_zero] at h2
  rw [← h2]
  cases o <;> rfl
def outF (o : Int ⊕ Int) : Int := match o with
  | .inl r => r
  | .inr r => r
theorem faults_loop (l : List RT) (hl : l.length ≤ 1000000000000000000) (hg : ∀ r ∈ l, r.good) : ∀ (d i : Nat) (w : Int), i + d = l.length → ∃ o, (∃ K, ∀ k n, K ≤ k → d < n → Lshuntref02_Faults_0 k n l w i = some o) ∧ outF o = faultsR w (l.drop i) := by
  intro d
  induction d with
  | zero =>
    intro i w hi
    refine ⟨.inr w, ⟨0, fun k n _ hn => ?_⟩, ?_⟩
    · obtain ⟨n, rfl⟩ : ∃ m, n = m + 1 := ⟨n - 1, by omega⟩
      show Lshuntref02_Faults_0s k (Lshuntref02_Faults_0 k n) _ _ _ = _
      unfold Lshuntref02_Faults_0s
      simp (config := { implicitDefEqProofs := false, maxSteps := 2000000 }) (disch := omega) only [ps, ↓reduceIte, reduceCtorEq, Int.reduceLT, Int.reduceLE, Int.reduceEq, Nat.reduceLT, Nat.reduceLeDiff, Nat.reduceEqDiff, Int.reduceNeg, eitherK]
    · rw [List.drop_of_length_le (by omega)]; rfl
  | succ d ih =>
    intro i w hi
    have hil : i < l.length := by omega
    obtain ⟨r, hr⟩ : ∃ r, l[i]? = some r := ⟨l[i], List.getElem?_eq_getElem hil⟩
    have hdrop : l.drop i = r :: l.drop (i + 1) := by
      rw [List.drop_eq_getElem_cons hil]
      rw [List.getElem?_eq_getElem hil] at hr
      cases hr; rfl
    have hgr := hg r (List.mem_of_getElem? hr)
    obtain ⟨K, hc⟩ := refFault_ev (n0 := r.1.1) (d0 := r.2.1) hgr.1.1 hgr.2.1 hgr.1.2 hgr.2.2
    have h1 : ((i : Int) + 1) = ((i + 1 : Nat) : Int) := rfl
    rw [hdrop]
    have hcs := faultR_cases r.1.1 r.1.2 r.2.1 r.2.2
    have step : ∀ (o : Int ⊕ Int) (K' : Nat), (∀ k n, K' ≤ k → d < n → Lshuntref02_Faults_0s k (Lshuntref02_Faults_0 k n) l w i = some o) → ∃ K, ∀ k n, K ≤ k → d + 1 < n → Lshuntref02_Faults_0 k n l w i = some o := by
      intro o K' h
      refine ⟨K', fun k n hk hn => ?_⟩
      obtain ⟨n, rfl⟩ : ∃ m, n = m + 1 := ⟨n - 1, by omega⟩
      exact h k n hk (by omega)
    rcases hcs with hf | hf | hf
    · obtain ⟨o, ⟨K2, i1⟩, i2⟩ := ih (i + 1) w (by omega)
      refine ⟨o, step o (max K K2) fun k n hk hn => ?_, by rw [i2]; simp only [faultsR, RT.f, hf]; rfl⟩
      have c := hc k (by omega)
      rw [hf] at c
      rw [← i1 k n (by omega) hn]
      unfold Lshuntref02_Faults_0s
      simp (config := { implicitDefEqProofs := false, maxSteps := 2000000 }) (disch := omega) only [ps, ↓reduceIte, reduceCtorEq, Int.reduceLT, Int.reduceLE, Int.reduceEq, Nat.reduceLT, Nat.reduceLeDiff, Nat.reduceEqDiff, Int.reduceNeg, eitherK, hr, c, h1]
    · refine ⟨_, step (.inl 10) K fun k n hk hn => ?_, by simp only [faultsR, RT.f, hf]; rfl⟩
      have c := hc k (by omega)
      rw [hf] at c
      unfold Lshuntref02_Faults_0s
      simp (config := { implicitDefEqProofs := false, maxSteps := 2000000 }) (disch := omega) only [ps, ↓reduceIte, reduceCtorEq, Int.reduceLT, Int.reduceLE, Int.reduceEq, Nat.reduceLT, Nat.reduceLeDiff, Nat.reduceEqDiff, Int.reduceNeg, eitherK, hr, c]
    · obtain ⟨o, ⟨K2, i1⟩, i2⟩ := ih (i + 1) 20 (by omega)
      refine ⟨o, step o (max K K2) fun k n hk hn => ?_, by rw [i2]; simp only [faultsR, RT.f, hf]; rfl⟩
      have c := hc k (by omega)
      rw [hf] at c
      rw [← i1 k n (by omega) hn]
      unfold Lshuntref02_Faults_0s
      simp (config := { implicitDefEqProofs := false, maxSteps := 2000000 }) (disch := omega) only [ps, ↓reduceIte, reduceCtorEq, Int.reduceLT, Int.reduceLE, Int.reduceEq, Nat.reduceLT, Nat.reduceLeDiff, Nat.reduceEqDiff, Int.reduceNeg, eitherK, hr, c, h1]
theorem Faults_ev (l : List RT) (hl : l.length ≤ 1000000000000000000) (hg : ∀ r ∈ l, r.good) : Rn (fun k => Fshuntref02_Faults k l) (faultsR 0 l) := by
  obtain ⟨o, ⟨K, h1⟩, h2⟩ := faults_loop l hl hg l.length 0 0 (by omega)
  refine Rn.up (f := fun k => Fshuntref02_Faults k l) (Rn.eq (K + l.length + 1) fun k hk => ?_)
  show bshuntref02_Faults k l = _
  unfold bshuntref02_Faults
  have h1' : Lshuntref02_Faults_0 k k l 0 (0 : Int) = some o := h1 k k (by omega) (by omega)
  rw [h1', Option.bind_some]
  rw [List.drop_zero] at h2
  rw [← h2]
  cases o <;> rfl
theorem faultsR_zero : ∀ (l : List RT) (w : Int), faultsR w l = 0 ↔ (w = 0 ∨ False) ∧ ∀ r ∈ l, r.f = 0 := by
  intro l
  induction l with
  | nil => intro w; simp [faultsR]
  | cons r t ih =>
    intro w
    simp only [faultsR]
    rcases faultR_cases r.1.1 r.1.2 r.2.1 r.2.2 with h | h | h
    · have h' : r.f = 0 := h
      simp [h', ih]
    · have h' : r.f = 10 := h
      simp [h']
    · have h' : r.f = 20 := h
      simp [h', ih]
theorem wRat_ev {z0 z2 : Bool} {z1 z3 : List Int} {q : Rat} (h : Fr z0 z1 z2 z3 q) (h1 : z1.length ≤ 1000000) (h3 : z3.length ≤ 1000000) : Rn (fun k => Fwide_Rat k z0 z1 z2 z3) (z0, z1, z2, z3) := by
  have hd := Rat.den_pos' q
  obtain ⟨s, p, t, r, e1, e2, e3, e4⟩ := Frac_ev z0 z2 z1 z3 h.1 h.2 h1 h3 (by omega)
  rw [Rat.num_divInt_den] at e2
  obtain ⟨rfl, rfl, rfl, rfl⟩ := e2.ext h
  have t1 := Take_nm h.1 (show p.length ≤ 1000000000 by omega)
  have t3 := Take_nm h.2 (show r.length ≤ 1000000000 by omega)
  exact Rn.up (f := fun k => Fwide_Rat k s p t r) (Rn.bind t1 (Rn.bind t3 (Rn.bind e1 (Rn.pure _))))
section
variable {x0 x2 y0 y2 : Bool} {x1 x3 y1 y3 : List Int} {x y : Rat} (hx : Fr x0 x1 x2 x3 x) (hy : Fr y0 y1 y2 y3 y) (l1 : x1.length ≤ 72) (l3 : x3.length ≤ 72) (m1 : y1.length ≤ 72) (m3 : y3.length ≤ 72)
include hx hy l1 l3 m1 m3
theorem all2_ok : Rn (fun k => Frat_all k (List.take 2 [((x0, x1), (x2, x3)), ((y0, y1), (y2, y3))])) 0 := by
  have e : faultsR 0 [((x0, x1), (x2, x3)), ((y0, y1), (y2, y3))] = 0 := by
    rw [faultsR_zero]
    refine ⟨.inl rfl, fun r hr => ?_⟩
    simp only [List.mem_cons, List.not_mem_nil, or_false] at hr
    rcases hr with rfl | rfl
    · exact fr_fault hx l1 l3
    · exact fr_fault hy m1 m3
  have := all_ev [((x0, x1), (x2, x3)), ((y0, y1), (y2, y3))] (by simp) (fun r hr => by
    simp only [List.mem_cons, List.not_mem_nil, or_false] at hr
    rcases hr with rfl | rfl
    · exact ⟨⟨show x1.length ≤ _ by omega, hx.1.c.1⟩, show x3.length ≤ _ by omega, hx.2.c.1⟩
    · exact ⟨⟨show y1.length ≤ _ by omega, hy.1.c.1⟩, show y3.length ≤ _ by omega, hy.2.c.1⟩)
  rw [e] at this
  exact this
theorem ratSub_ev : ∃ s p t r, Fr s p t r (x - y) ∧ (p.length ≤ max (x1.length + y3.length) (y1.length + x3.length) + 1 ∧ r.length ≤ x3.length + y3.length) ∧ Rn (fun k => Frat_Sub k x0 x1 x2 x3 y0 y1 y2 y3) (ansR s p t r) := by
  obtain ⟨s, p, t, r, e1, e2, e3, e4⟩ := rSub_ev false false hx hy (by omega) (by omega) (by omega) (by omega)
  refine ⟨s, p, t, r, e2, ⟨e3, e4⟩, Rn.up (f := fun k => Frat_Sub k x0 x1 x2 x3 y0 y1 y2 y3) ?_⟩
  have ht : Rn (fun k => Frat_two_jru k x0 x1 x2 x3 y0 y1 y2 y3) (ansR s p t r) := by
    refine Rn.up (f := fun k => Frat_two_jru k x0 x1 x2 x3 y0 y1 y2 y3) ?_
    show Rn (fun k => brat_two_jru k x0 x1 x2 x3 y0 y1 y2 y3) _
    unfold brat_two_jru
    refine Rn.bind (all2_ok hx hy l1 l3 m1 m3) ?_
    (first | (refine Rn.t ?hc ?_; case hc => simp (config := { implicitDefEqProofs := false, maxSteps := 2000000 }) (disch := omega) only [ps, ↓reduceIte, reduceCtorEq, Int.reduceLT, Int.reduceLE, Int.reduceEq, Nat.reduceLT, Nat.reduceLeDiff, Nat.reduceEqDiff, Int.reduceNeg, eitherK]) | (refine Rn.f ?hc ?_; case hc => simp (config := { implicitDefEqProofs := false, maxSteps := 2000000 }) (disch := omega) only [ps, ↓reduceIte, reduceCtorEq, Int.reduceLT, Int.reduceLE, Int.reduceEq, Nat.reduceLT, Nat.reduceLeDiff, Nat.reduceEqDiff, Int.reduceNeg, eitherK]))
    have wx := wRat_ev hx (by omega) (by omega)
    have wy := wRat_ev hy (by omega) (by omega)
    have wa := rAnswer_ev e2 (by omega) (by omega)
    exact Rn.bind wx (Rn.bind wy (Rn.bind e1 (Rn.bind wa (Rn.pure _))))
  exact Rn.bind ht (Rn.pure _)
theorem ratCmp_ev : Rn (fun k => Frat_Cmp k x0 x1 x2 x3 y0 y1 y2 y3) (cmpR x y, 0) := by
  refine Rn.up (f := fun k => Frat_Cmp k x0 x1 x2 x3 y0 y1 y2 y3) ?_
  show Rn (fun k => brat_Cmp k x0 x1 x2 x3 y0 y1 y2 y3) _
  unfold brat_Cmp
  refine Rn.bind (all2_ok hx hy l1 l3 m1 m3) ?_
  (first | (refine Rn.t ?hc ?_; case hc => simp (config := { implicitDefEqProofs := false, maxSteps := 2000000 }) (disch := omega) only [ps, ↓reduceIte, reduceCtorEq, Int.reduceLT, Int.reduceLE, Int.reduceEq, Nat.reduceLT, Nat.reduceLeDiff, Nat.reduceEqDiff, Int.reduceNeg, eitherK]) | (refine Rn.f ?hc ?_; case hc => simp (config := { implicitDefEqProofs := false, maxSteps := 2000000 }) (disch := omega) only [ps, ↓reduceIte, reduceCtorEq, Int.reduceLT, Int.reduceLE, Int.reduceEq, Nat.reduceLT, Nat.reduceLeDiff, Nat.reduceEqDiff, Int.reduceNeg, eitherK]))
  have wx := wRat_ev hx (by omega) (by omega)
  have wy := wRat_ev hy (by omega) (by omega)
  have wc := rCmp_ev hx hy (by omega) (by omega) (by omega) (by omega)
  exact Rn.bind wx (Rn.bind wy (Rn.bind wc (Rn.pure _)))
end
end Go.Proofs.Ytjgpegpjmkgkkaa.Am

/- Plain reckoning: fractions made, held against one another, and of small numbers. -/
set_option linter.unusedVariables false
set_option linter.unusedSectionVars false
set_option linter.unusedSimpArgs false
set_option maxRecDepth 10000
namespace Go.Proofs.Ytjgpegpjmkgkkaa.Am
open Go

theorem ratMake_ev {n0 d0 : Bool} {n1 d1 : List Int} {x y : Int} (nx : Nm W n0 n1 x) (ny : Nm W d0 d1 y) (hx : n1.length ≤ 72) (hy : d1.length ≤ 72) (hy0 : y ≠ 0) :
    ∃ s p t r, Rn (fun k => Frat_Make k n0 n1 d0 d1) (s, p, t, r, 0) ∧ Fr s p t r (Rat.divInt x y) ∧ p.length ≤ n1.length ∧ r.length ≤ d1.length := by
  obtain ⟨s, p, t, r, e1, e2, e3, e4⟩ := Frac_ev n0 d0 n1 d1 nx ny (by omega) (by omega) hy0
  refine ⟨s, p, t, r, Rn.up (f := fun k => Frat_Make k n0 n1 d0 d1) ?_, e2, e3, e4⟩
  show Rn (fun k => brat_Make k n0 n1 d0 d1) _
  unfold brat_Make
  have c1 := check_ev n0 n1 (by omega) nx.c.1
  have c2 := check_ev d0 d1 (by omega) ny.c.1
  rw [if_pos (nx.ri hx)] at c1
  rw [if_pos (ny.ri hy)] at c2
  have hl : 0 < d1.length := by
    cases d1 with
    | nil =>
      have := ny.z
      simp only [V] at this
      exact absurd (by cases d0 <;> simp at this <;> omega) hy0
    | cons _ _ => simp
  refine Rn.bind c1 ?_
  (first | (refine Rn.t ?hc ?_; case hc => simp (config := { implicitDefEqProofs := false, maxSteps := 2000000 }) (disch := omega) only [ps, ↓reduceIte, reduceCtorEq, Int.reduceLT, Int.reduceLE, Int.reduceEq, Nat.reduceLT, Nat.reduceLeDiff, Nat.reduceEqDiff, Int.reduceNeg, eitherK]) | (refine Rn.f ?hc ?_; case hc => simp (config := { implicitDefEqProofs := false, maxSteps := 2000000 }) (disch := omega) only [ps, ↓reduceIte, reduceCtorEq, Int.reduceLT, Int.reduceLE, Int.reduceEq, Nat.reduceLT, Nat.reduceLeDiff, Nat.reduceEqDiff, Int.reduceNeg, eitherK]))
  refine Rn.bind c2 ?_
  (first | (refine Rn.t ?hc ?_; case hc => simp (config := { implicitDefEqProofs := false, maxSteps := 2000000 }) (disch := omega) only [ps, ↓reduceIte, reduceCtorEq, Int.reduceLT, Int.reduceLE, Int.reduceEq, Nat.reduceLT, Nat.reduceLeDiff, Nat.reduceEqDiff, Int.reduceNeg, eitherK]) | (refine Rn.f ?hc ?_; case hc => simp (config := { implicitDefEqProofs := false, maxSteps := 2000000 }) (disch := omega) only [ps, ↓reduceIte, reduceCtorEq, Int.reduceLT, Int.reduceLE, Int.reduceEq, Nat.reduceLT, Nat.reduceLeDiff, Nat.reduceEqDiff, Int.reduceNeg, eitherK]))
  (first | (refine Rn.t ?hc ?_; case hc => simp (config := { implicitDefEqProofs := false, maxSteps := 2000000 }) (disch := omega) only [ps, ↓reduceIte, reduceCtorEq, Int.reduceLT, Int.reduceLE, Int.reduceEq, Nat.reduceLT, Nat.reduceLeDiff, Nat.reduceEqDiff, Int.reduceNeg, eitherK]) | (refine Rn.f ?hc ?_; case hc => simp (config := { implicitDefEqProofs := false, maxSteps := 2000000 }) (disch := omega) only [ps, ↓reduceIte, reduceCtorEq, Int.reduceLT, Int.reduceLE, Int.reduceEq, Nat.reduceLT, Nat.reduceLeDiff, Nat.reduceEqDiff, Int.reduceNeg, eitherK]))
  have t1 := Take_nm nx (by omega)
  have t3 := Take_nm ny (by omega)
  have wa := rAnswer_ev e2 (by omega) (by omega)
  have ea : ansR s p t r = (s, p, t, r, 0) := if_pos ⟨by omega, by omega⟩
  rw [ea] at wa
  exact Rn.bind t1 (Rn.bind t3 (Rn.bind e1 (Rn.bind wa (Rn.pure _))))
theorem ansR_le {s t : Bool} {p r : List Int} (h1 : p.length ≤ 72) (h2 : r.length ≤ 72) : ansR s p t r = (s, p, t, r, 0) := if_pos ⟨h1, h2⟩
theorem of2_ev (n d : Int) (hn : -9223372036854775808 ≤ n ∧ n ≤ 9223372036854775807) (hd : -9223372036854775808 ≤ d ∧ d ≤ 9223372036854775807) (h0 : d ≠ 0) :
    ∃ s p t r, Rn (fun k => Fshuntlaw02_of k n d) (s, p, t, r) ∧ Fr s p t r (Rat.divInt n d) ∧ p.length ≤ 2 ∧ r.length ≤ 2 := by
  obtain ⟨l, a1, a2, a3⟩ := limbOf_ev n hn
  obtain ⟨m, b1, b2, b3⟩ := limbOf_ev d hd
  obtain ⟨s, p, t, r, c1, c2, c3, c4⟩ := ratMake_ev a2 b2 (by omega) (by omega) h0
  refine ⟨s, p, t, r, Rn.up (f := fun k => Fshuntlaw02_of k n d) ?_, c2, by omega, by omega⟩
  exact Rn.bind a1 (Rn.bind b1 (Rn.bind c1 (Rn.pure _)))
/-- The words of a law's fraction, opened. -/
theorem rt_good {x : RT} (w : Wfd (.pr (.pr .bool (.sl (.int .u32))) (.pr .bool (.sl (.int .u32)))) x) : x.good := by
  obtain ⟨d1, l1⟩ := dg_of w.1.2
  obtain ⟨d3, l3⟩ := dg_of w.2.2
  exact ⟨⟨l1, d1⟩, l3, d3⟩
end Go.Proofs.Ytjgpegpjmkgkkaa.Am

/- Plain reckoning: a number's text. -/
set_option linter.unusedVariables false
set_option linter.unusedSimpArgs false
set_option maxRecDepth 10000
namespace Go.Proofs.Ytjgpegpjmkgkkaa.Am
open Go

/-- A number's text: the digits of its magnitude, the sign ahead. -/
structure Tx (z : Int) (s : ByteArray) : Prop where
  nz : z = 0 → s = bytesOf [48]
  ex : z ≠ 0 → ∃ l, Cn 10 l ∧ V 10 l = z.natAbs ∧ s = bytesOf ((if z < 0 then [45] else []) ++ (sg l).reverse)
theorem Tx.ext {z : Int} {s t : ByteArray} (h1 : Tx z s) (h2 : Tx z t) : s = t := by
  by_cases h : z = 0
  · rw [h1.nz h, h2.nz h]
  · obtain ⟨l, a1, a2, a3⟩ := h1.ex h
    obtain ⟨m, b1, b2, b3⟩ := h2.ex h
    rw [a3, b3, Cn.ext (by decide) a1 b1 (by rw [a2, b2])]
end Go.Proofs.Ytjgpegpjmkgkkaa.Am

/- Plain reckoning: numbers as machine words of 64 bits. -/
set_option linter.unusedVariables false
set_option linter.unusedSimpArgs false
set_option maxRecDepth 10000
namespace Go.Proofs.Ytjgpegpjmkgkkaa.Am
open Go

theorem i64_loop (k : Nat) (z0 : Bool) (z1 : List Int) (hl : z1.length ≤ 2) (hd : Dg W z1) : ∀ (m n : Nat) (u : Int), m ≤ z1.length → m < n → u = V W (z1.drop m) → Lbig_Int_Int64_awf_0 k n u ((m : Int) - 1) z0 z1 = some (V W z1, z0, z1) := by
  intro m
  induction m with
  | zero =>
    intro n u hm hn hu
    obtain ⟨n, rfl⟩ : ∃ m, n = m + 1 := ⟨n - 1, by omega⟩
    show Lbig_Int_Int64_awf_0s k (Lbig_Int_Int64_awf_0 k n) _ _ _ _ = _
    unfold Lbig_Int_Int64_awf_0s
    rw [hu]
    simp (config := { implicitDefEqProofs := false, maxSteps := 2000000 }) (disch := omega) only [ps, ↓reduceIte, reduceCtorEq, Int.reduceLT, Int.reduceLE, Int.reduceEq, Nat.reduceLT, Nat.reduceLeDiff, Nat.reduceEqDiff, Int.reduceNeg, eitherK]
    rfl
  | succ i ih =>
    intro n u hm hn hu
    obtain ⟨n, rfl⟩ : ∃ m, n = m + 1 := ⟨n - 1, by omega⟩
    obtain ⟨x, hx⟩ := get_of (show i < z1.length by omega)
    have hxb := hd.get hx
    have h1 : (((i + 1 : Nat) : Int) - 1) = (i : Int) := by omega
    have hub : 0 ≤ u ∧ u < 4294967296 := by
      have a1 := V_nonneg (B := W) (by decide) (hd.drop (i + 1))
      have a2 := V_lt (B := W) (by decide) (hd.drop (i + 1))
      have a3 := pow_mono (B := W) (by decide) (show (z1.drop (i + 1)).length ≤ 1 by rw [List.length_drop]; omega)
      rw [← hu] at a1 a2
      have a4 : W ^ 1 = 4294967296 := by decide
      omega
    unfold W at hxb
    have e0 : IntKind.u64.wrap (u * 4294967296) = u * 4294967296 := wrap_u64_id (by omega)
    have e2 : IntKind.u64.wrap x = x := wrap_u64_id (by omega)
    have e1 := or_add (x := u) (y := x) (by omega) (by omega)
    have e3 : IntKind.u64.wrap (u * 4294967296 + x) = u * 4294967296 + x := wrap_u64_id (by omega)
    have key := ih n (u * 4294967296 + x) (by omega) (by omega) (by rw [V_drop hx, ← hu]; unfold W; omega)
    show Lbig_Int_Int64_awf_0s k (Lbig_Int_Int64_awf_0 k n) _ _ _ _ = _
    unfold Lbig_Int_Int64_awf_0s
    simp (config := { implicitDefEqProofs := false, maxSteps := 2000000 }) (disch := omega) only [ps, ↓reduceIte, reduceCtorEq, Int.reduceLT, Int.reduceLE, Int.reduceEq, Nat.reduceLT, Nat.reduceLeDiff, Nat.reduceEqDiff, Int.reduceNeg, eitherK, hx, h1, e0, e2, e1, e3, key]
theorem wrap_i64' (x : Int) : IntKind.i64.wrap x = (x + 9223372036854775808) % 18446744073709551616 - 9223372036854775808 := by
  simp only [IntKind.wrap, IntKind.bits, IntKind.signed]
  simp
  omega
end Go.Proofs.Ytjgpegpjmkgkkaa.Am

/- Plain reckoning: a fraction rounded to the grid. -/
set_option linter.unusedVariables false
set_option linter.unusedSectionVars false
set_option linter.unusedSimpArgs false
set_option maxRecDepth 10000
namespace Go.Proofs.Ytjgpegpjmkgkkaa.Am
open Go

/-- The whole number nearest to x over d, of two the even one. -/
def nearI (x d : Int) : Int := if d < 2 * (x.tmod d).natAbs ∨ (2 * (x.tmod d).natAbs = d ∧ x.tdiv d % 2 ≠ 0) then x.tdiv d + x.sign else x.tdiv d
def gridZ (z : Int) : Int × Int := if -1000000000000000000 ≤ z ∧ z ≤ 1000000000000000000 then (z, 0) else (0, 4)
theorem bigInt64_ev {z0 : Bool} {z1 : List Int} {z : Int} (hn : Nm W z0 z1 z) (h1000 : z1.length ≤ 1000000) :
    ∃ v ok, Rn (fun k => Fbig_Int_Int64_awf k z0 z1) (v, ok, z0, z1) ∧ (ok = decide (-9223372036854775808 ≤ z ∧ z ≤ 9223372036854775807)) ∧ (ok = true → v = z) := by
  have hab := hn.abs (B := W) (by decide)
  have hng := hn.neg (B := W) (by decide)
  have p0 := V_nonneg (B := W) (by decide) hn.c.1
  have hzz := hn.z
  by_cases h2 : z1.length ≤ 2
  · have hb : V W z1 < 18446744073709551616 := by
      have a2 := V_lt (B := W) (by decide) hn.c.1
      have a3 := pow_mono (B := W) (by decide) h2
      have a4 : W ^ 2 = 18446744073709551616 := by decide
      omega
    have hr : Rn (fun k => Fbig_Int_Int64_awf k z0 z1) (if z0 then (IntKind.i64.wrap (0 - IntKind.i64.wrap (V W z1)), decide (V W z1 ≤ 9223372036854775808), z0, z1) else (IntKind.i64.wrap (V W z1), decide (V W z1 < 9223372036854775808), z0, z1)) := by
      refine Rn.up (f := fun k => Fbig_Int_Int64_awf k z0 z1) (Rn.eq (z1.length + 1) fun k hk => ?_)
      show bbig_Int_Int64_awf k z0 z1 = _
      unfold bbig_Int_Int64_awf
      have hl := i64_loop k z0 z1 h2 hn.c.1 z1.length k 0 (Nat.le_refl _) (by omega) (by rw [List.drop_length]; rfl)
      cases z0
      · simp (config := { implicitDefEqProofs := false, maxSteps := 2000000 }) (disch := omega) only [ps, ↓reduceIte, reduceCtorEq, Int.reduceLT, Int.reduceLE, Int.reduceEq, Nat.reduceLT, Nat.reduceLeDiff, Nat.reduceEqDiff, Int.reduceNeg, eitherK, hl]
      · simp (config := { implicitDefEqProofs := false, maxSteps := 2000000 }) (disch := omega) only [ps, ↓reduceIte, reduceCtorEq, Int.reduceLT, Int.reduceLE, Int.reduceEq, Nat.reduceLT, Nat.reduceLeDiff, Nat.reduceEqDiff, Int.reduceNeg, eitherK, hl]
    cases z0
    · simp only [Bool.false_eq_true, if_false] at hzz hr
      refine ⟨_, _, hr, ?_, ?_⟩
      · exact decide_eq_decide.2 (by omega)
      · intro h
        have := of_decide_eq_true h
        rw [wrap_i64 (by omega)]; exact hzz
    · simp only [if_true] at hzz hr
      refine ⟨_, _, hr, ?_, ?_⟩
      · exact decide_eq_decide.2 (by omega)
      · intro h
        have := of_decide_eq_true h
        rw [wrap_i64', wrap_i64']; omega
  · have hbig : 18446744073709551616 ≤ V W z1 := by
      have a2 := hn.c.ge (B := W) (by decide) (by rintro rfl; simp at h2)
      have a3 := pow_mono (B := W) (by decide) (show 2 ≤ z1.length - 1 by omega)
      have a4 : W ^ 2 = 18446744073709551616 := by decide
      omega
    refine ⟨0, false, Rn.up (f := fun k => Fbig_Int_Int64_awf k z0 z1) ?_, ?_, fun h => by cases h⟩
    · show Rn (fun k => bbig_Int_Int64_awf k z0 z1) _
      unfold bbig_Int_Int64_awf
      (first | (refine Rn.t ?hc ?_; case hc => simp (config := { implicitDefEqProofs := false, maxSteps := 2000000 }) (disch := omega) only [ps, ↓reduceIte, reduceCtorEq, Int.reduceLT, Int.reduceLE, Int.reduceEq, Nat.reduceLT, Nat.reduceLeDiff, Nat.reduceEqDiff, Int.reduceNeg, eitherK]) | (refine Rn.f ?hc ?_; case hc => simp (config := { implicitDefEqProofs := false, maxSteps := 2000000 }) (disch := omega) only [ps, ↓reduceIte, reduceCtorEq, Int.reduceLT, Int.reduceLE, Int.reduceEq, Nat.reduceLT, Nat.reduceLeDiff, Nat.reduceEqDiff, Int.reduceNeg, eitherK]))
      exact Rn.pure _
    · rw [eq_comm, decide_eq_false_iff_not]; omega
theorem Grid_ev {z0 : Bool} {z1 : List Int} {z : Int} (hn : Nm W z0 z1 z) (hl : z1.length ≤ 1000000) : Rn (fun k => Frat_Grid_awf k z0 z1) ((gridZ z).1, (gridZ z).2, z0, z1) := by
  obtain ⟨v, ok, h1, h2, h3⟩ := bigInt64_ev hn hl
  refine Rn.up (f := fun k => Frat_Grid_awf k z0 z1) ?_
  show Rn (fun k => brat_Grid_awf k z0 z1) _
  unfold brat_Grid_awf
  refine Rn.bind h1 ?_
  by_cases hok : -9223372036854775808 ≤ z ∧ z ≤ 9223372036854775807
  · rw [decide_eq_true hok] at h2
    subst h2
    have hv := h3 rfl
    subst hv
    (first | (refine Rn.t ?hc ?_; case hc => simp (config := { implicitDefEqProofs := false, maxSteps := 2000000 }) (disch := omega) only [ps, ↓reduceIte, reduceCtorEq, Int.reduceLT, Int.reduceLE, Int.reduceEq, Nat.reduceLT, Nat.reduceLeDiff, Nat.reduceEqDiff, Int.reduceNeg, eitherK]) | (refine Rn.f ?hc ?_; case hc => simp (config := { implicitDefEqProofs := false, maxSteps := 2000000 }) (disch := omega) only [ps, ↓reduceIte, reduceCtorEq, Int.reduceLT, Int.reduceLE, Int.reduceEq, Nat.reduceLT, Nat.reduceLeDiff, Nat.reduceEqDiff, Int.reduceNeg, eitherK]))
    by_cases h4 : v ≤ 1000000000000000000
    · (first | (refine Rn.t ?hc ?_; case hc => simp (config := { implicitDefEqProofs := false, maxSteps := 2000000 }) (disch := omega) only [ps, ↓reduceIte, reduceCtorEq, Int.reduceLT, Int.reduceLE, Int.reduceEq, Nat.reduceLT, Nat.reduceLeDiff, Nat.reduceEqDiff, Int.reduceNeg, eitherK]) | (refine Rn.f ?hc ?_; case hc => simp (config := { implicitDefEqProofs := false, maxSteps := 2000000 }) (disch := omega) only [ps, ↓reduceIte, reduceCtorEq, Int.reduceLT, Int.reduceLE, Int.reduceEq, Nat.reduceLT, Nat.reduceLeDiff, Nat.reduceEqDiff, Int.reduceNeg, eitherK]))
      by_cases h5 : -1000000000000000000 ≤ v
      · have e : gridZ v = (v, 0) := if_pos ⟨h5, h4⟩
        rw [e]
        (first | (refine Rn.t ?hc ?_; case hc => simp (config := { implicitDefEqProofs := false, maxSteps := 2000000 }) (disch := omega) only [ps, ↓reduceIte, reduceCtorEq, Int.reduceLT, Int.reduceLE, Int.reduceEq, Nat.reduceLT, Nat.reduceLeDiff, Nat.reduceEqDiff, Int.reduceNeg, eitherK]) | (refine Rn.f ?hc ?_; case hc => simp (config := { implicitDefEqProofs := false, maxSteps := 2000000 }) (disch := omega) only [ps, ↓reduceIte, reduceCtorEq, Int.reduceLT, Int.reduceLE, Int.reduceEq, Nat.reduceLT, Nat.reduceLeDiff, Nat.reduceEqDiff, Int.reduceNeg, eitherK]))
        exact Rn.pure _
      · have e : gridZ v = (0, 4) := if_neg (fun c => h5 c.1)
        rw [e]
        (first | (refine Rn.t ?hc ?_; case hc => simp (config := { implicitDefEqProofs := false, maxSteps := 2000000 }) (disch := omega) only [ps, ↓reduceIte, reduceCtorEq, Int.reduceLT, Int.reduceLE, Int.reduceEq, Nat.reduceLT, Nat.reduceLeDiff, Nat.reduceEqDiff, Int.reduceNeg, eitherK]) | (refine Rn.f ?hc ?_; case hc => simp (config := { implicitDefEqProofs := false, maxSteps := 2000000 }) (disch := omega) only [ps, ↓reduceIte, reduceCtorEq, Int.reduceLT, Int.reduceLE, Int.reduceEq, Nat.reduceLT, Nat.reduceLeDiff, Nat.reduceEqDiff, Int.reduceNeg, eitherK]))
        exact Rn.pure _
    · have e : gridZ v = (0, 4) := if_neg (fun c => h4 c.2)
      rw [e]
      (first | (refine Rn.t ?hc ?_; case hc => simp (config := { implicitDefEqProofs := false, maxSteps := 2000000 }) (disch := omega) only [ps, ↓reduceIte, reduceCtorEq, Int.reduceLT, Int.reduceLE, Int.reduceEq, Nat.reduceLT, Nat.reduceLeDiff, Nat.reduceEqDiff, Int.reduceNeg, eitherK]) | (refine Rn.f ?hc ?_; case hc => simp (config := { implicitDefEqProofs := false, maxSteps := 2000000 }) (disch := omega) only [ps, ↓reduceIte, reduceCtorEq, Int.reduceLT, Int.reduceLE, Int.reduceEq, Nat.reduceLT, Nat.reduceLeDiff, Nat.reduceEqDiff, Int.reduceNeg, eitherK]))
      exact Rn.pure _
  · rw [decide_eq_false hok] at h2
    subst h2
    have e : gridZ z = (0, 4) := if_neg (by omega)
    rw [e]
    (first | (refine Rn.t ?hc ?_; case hc => simp (config := { implicitDefEqProofs := false, maxSteps := 2000000 }) (disch := omega) only [ps, ↓reduceIte, reduceCtorEq, Int.reduceLT, Int.reduceLE, Int.reduceEq, Nat.reduceLT, Nat.reduceLeDiff, Nat.reduceEqDiff, Int.reduceNeg, eitherK]) | (refine Rn.f ?hc ?_; case hc => simp (config := { implicitDefEqProofs := false, maxSteps := 2000000 }) (disch := omega) only [ps, ↓reduceIte, reduceCtorEq, Int.reduceLT, Int.reduceLE, Int.reduceEq, Nat.reduceLT, Nat.reduceLeDiff, Nat.reduceEqDiff, Int.reduceNeg, eitherK]))
    exact Rn.pure _
theorem Sign1_ev {z0 : Bool} {z1 : List Int} {z : Int} (hn : Nm W z0 z1 z) : Rn (fun k => Fbig_Int_Sign_awf k z0 z1) (z.sign, z0, z1) := by
  refine Rn.up (f := fun k => Fbig_Int_Sign_awf k z0 z1) ?_
  show Rn (fun k => bbig_Int_Sign_awf k z0 z1) _
  unfold bbig_Int_Sign_awf
  have hnil := hn.c.nil_iff (B := W) (by decide)
  have hab := hn.abs (B := W) (by decide)
  have hng := hn.neg (B := W) (by decide)
  cases z1 with
  | nil =>
    have hz : z = 0 := by have := hnil.1 rfl; omega
    subst hz
    simp (config := { implicitDefEqProofs := false, maxSteps := 2000000 }) (disch := omega) only [ps, ↓reduceIte, reduceCtorEq, Int.reduceLT, Int.reduceLE, Int.reduceEq, Nat.reduceLT, Nat.reduceLeDiff, Nat.reduceEqDiff, Int.reduceNeg, eitherK]
    exact Rn.pure _
  | cons y r =>
    have hl : (y :: r).length = r.length + 1 := rfl
    have hz : z ≠ 0 := by
      intro h
      have := hnil.2 (by rw [hab, h]; rfl)
      cases this
    cases z0
    · have : z.sign = 1 := Int.sign_eq_one_of_pos (by have : ¬ z < 0 := by simpa using hng
                                                      omega)
      rw [this]
      simp (config := { implicitDefEqProofs := false, maxSteps := 2000000 }) (disch := omega) only [ps, ↓reduceIte, reduceCtorEq, Int.reduceLT, Int.reduceLE, Int.reduceEq, Nat.reduceLT, Nat.reduceLeDiff, Nat.reduceEqDiff, Int.reduceNeg, eitherK, hl]
      exact Rn.pure _
    · have : z.sign = -1 := Int.sign_eq_neg_one_of_neg (by simpa using hng)
      rw [this]
      simp (config := { implicitDefEqProofs := false, maxSteps := 2000000 }) (disch := omega) only [ps, ↓reduceIte, reduceCtorEq, Int.reduceLT, Int.reduceLE, Int.reduceEq, Nat.reduceLT, Nat.reduceLeDiff, Nat.reduceEqDiff, Int.reduceNeg, eitherK, hl]
      exact Rn.pure _
theorem Odd_ev {z0 : Bool} {z1 : List Int} {z : Int} (hn : Nm W z0 z1 z) : Rn (fun k => Fbig_Int_Odd_awf k z0 z1) (decide (z % 2 ≠ 0), z0, z1) := by
  refine Rn.up (f := fun k => Fbig_Int_Odd_awf k z0 z1) ?_
  show Rn (fun k => bbig_Int_Odd_awf k z0 z1) _
  unfold bbig_Int_Odd_awf
  have hab := hn.abs (B := W) (by decide)
  cases z1 with
  | nil =>
    have hz : z = 0 := by simp [V] at hab; omega
    subst hz
    (first | (refine Rn.t ?hc ?_; case hc => simp (config := { implicitDefEqProofs := false, maxSteps := 2000000 }) (disch := omega) only [ps, ↓reduceIte, reduceCtorEq, Int.reduceLT, Int.reduceLE, Int.reduceEq, Nat.reduceLT, Nat.reduceLeDiff, Nat.reduceEqDiff, Int.reduceNeg, eitherK]) | (refine Rn.f ?hc ?_; case hc => simp (config := { implicitDefEqProofs := false, maxSteps := 2000000 }) (disch := omega) only [ps, ↓reduceIte, reduceCtorEq, Int.reduceLT, Int.reduceLE, Int.reduceEq, Nat.reduceLT, Nat.reduceLeDiff, Nat.reduceEqDiff, Int.reduceNeg, eitherK]))
    exact Rn.pure _
  | cons y r =>
    have hl : (y :: r).length = r.length + 1 := rfl
    have hy := hn.c.1.head
    have hyW : y < 4294967296 := hy.2
    have hp : z % 2 = y % 2 := by
      simp only [V] at hab
      unfold W at hab
      omega
    have hand : (((BitVec.toNat ((BitVec.ofInt 32 y) &&& (BitVec.ofInt 32 (1 : Int)))) : Nat) : Int) = y % 2 := by
      obtain ⟨a, rfl⟩ := Int.eq_ofNat_of_zero_le hy.1
      have h1 : (BitVec.ofInt 32 (a : Int)).toNat = a := by rw [BitVec.toNat_ofInt]; omega
      have h2 : (BitVec.ofInt 32 (1 : Int)).toNat = 1 := by decide
      rw [BitVec.toNat_and, h1, h2, Nat.and_one_is_mod]
      omega
    (first | (refine Rn.t ?hc ?_; case hc => simp (config := { implicitDefEqProofs := false, maxSteps := 2000000 }) (disch := omega) only [ps, ↓reduceIte, reduceCtorEq, Int.reduceLT, Int.reduceLE, Int.reduceEq, Nat.reduceLT, Nat.reduceLeDiff, Nat.reduceEqDiff, Int.reduceNeg, eitherK, hl]) | (refine Rn.f ?hc ?_; case hc => simp (config := { implicitDefEqProofs := false, maxSteps := 2000000 }) (disch := omega) only [ps, ↓reduceIte, reduceCtorEq, Int.reduceLT, Int.reduceLE, Int.reduceEq, Nat.reduceLT, Nat.reduceLeDiff, Nat.reduceEqDiff, Int.reduceNeg, eitherK, hl]))
    refine Rn.at (x := y) rfl ?_
    have e : ((IntKind.wrap .u32 (((BitVec.toNat ((BitVec.ofInt 32 y) &&& (BitVec.ofInt 32 (1 : Int)))) : Nat) : Int)) == (1 : Int)) = decide (z % 2 ≠ 0) := by
      rw [hand, wrap_u32_id (by omega), hp]
      have : (y % 2 == 1) = decide (y % 2 = 1) := rfl
      rw [this]
      exact decide_eq_decide.2 (by omega)
    rw [e]
    exact Rn.pure _
theorem near_ev {n0 : Bool} {n1 d1 : List Int} {x d : Int} (nx : Nm W n0 n1 x) (nd : Nm W false d1 d) (hx : n1.length ≤ 1000000) (hd : d1.length ≤ 1000000) (h0 : 0 < d) :
    ∃ s l, Rn (fun k => Frat_Near_ddu k n0 n1 false d1) (n0, n1, false, d1, s, l) ∧ Nm W s l (nearI x d) ∧ l.length ≤ n1.length + 3 := by
  have hne : d1 ≠ [] := by
    rintro rfl
    have := nd.z
    simp [V] at this
    omega
  obtain ⟨s, q, t, r, a1, a2, a3, a4, a5⟩ := QuoRem_ev false n0 false false n1 d1 nx nd (by omega) (by omega) hne
  have hr0 : Nm W (sgn false r) (tl r) ((x.tmod d).natAbs : Int) := (sgn_nm (neg := false) a3.c.1 (a3.abs (by decide))).cast (by simp)
  have hab : Rn (fun k => Fbig_Int_Abs_eql k false t r) (sgn false r, tl r, t, r) := Rn.up (f := fun k => Fbig_Int_Abs_eql k false t r) (Rn.bind (set1_ev false false r (by omega)) (Rn.pure _))
  have ltr := tl_len r
  obtain ⟨s2, l2, b1, b2, b3⟩ := sum2_ev (sgn false r) (sgn false r) (tl r) (tl r) (by omega) (by omega) hr0.c hr0.c
  rw [hr0.z] at b2
  have hadd : Rn (fun k => Fbig_Int_Add_aht k (sgn false r) (tl r)) (s2, l2) := Rn.up (f := fun k => Fbig_Int_Add_aht k (sgn false r) (tl r)) (Rn.bind b1 (Rn.pure _))
  have hcmp := Cmp_ev s2 false l2 d1 b2 nd (by omega) (by omega)
  obtain ⟨c, hc, hcc⟩ := cmpZ_cases (((x.tmod d).natAbs : Int) + (x.tmod d).natAbs) d
  rw [hc] at hcmp
  have hsg := Sign1_ev nx
  have hs3 := Int.sign_trichotomy x
  obtain ⟨m, c1, c2, c3⟩ := NewInt_ev x.sign (by omega)
  obtain ⟨s4, l4, d1', d2, d3⟩ := Add2_ev s (decide (x.sign < 0)) q m a2 c2 (by omega) (by omega)
  have hodd := Odd_ev a2
  by_cases hup : d < 2 * ((x.tmod d).natAbs : Int) ∨ (2 * ((x.tmod d).natAbs : Int) = d ∧ x.tdiv d % 2 ≠ 0)
  · have hv : nearI x d = x.tdiv d + x.sign := if_pos hup
    rw [← hv] at d2
    refine ⟨s4, l4, Rn.up (f := fun k => Frat_Near_ddu k n0 n1 false d1) ?_, d2, by omega⟩
    show Rn (fun k => brat_Near_ddu k n0 n1 false d1) _
    unfold brat_Near_ddu
    refine Rn.bind a1 (Rn.bind hab (Rn.bind hadd (Rn.bind hcmp ?_)))
    by_cases h1 : d < 2 * ((x.tmod d).natAbs : Int)
    · (first | (refine Rn.t ?hc ?_; case hc => simp (config := { implicitDefEqProofs := false, maxSteps := 2000000 }) (disch := omega) only [ps, ↓reduceIte, reduceCtorEq, Int.reduceLT, Int.reduceLE, Int.reduceEq, Nat.reduceLT, Nat.reduceLeDiff, Nat.reduceEqDiff, Int.reduceNeg, eitherK]) | (refine Rn.f ?hc ?_; case hc => simp (config := { implicitDefEqProofs := false, maxSteps := 2000000 }) (disch := omega) only [ps, ↓reduceIte, reduceCtorEq, Int.reduceLT, Int.reduceLE, Int.reduceEq, Nat.reduceLT, Nat.reduceLeDiff, Nat.reduceEqDiff, Int.reduceNeg, eitherK]))
      exact Rn.bind hsg (Rn.bind c1 (Rn.bind d1' (Rn.pure _)))
    · have h2 : 2 * ((x.tmod d).natAbs : Int) = d ∧ x.tdiv d % 2 ≠ 0 := hup.resolve_left h1
      rw [decide_eq_true h2.2] at hodd
      (first | (refine Rn.t ?hc ?_; case hc => simp (config := { implicitDefEqProofs := false, maxSteps := 2000000 }) (disch := omega) only [ps, ↓reduceIte, reduceCtorEq, Int.reduceLT, Int.reduceLE, Int.reduceEq, Nat.reduceLT, Nat.reduceLeDiff, Nat.reduceEqDiff, Int.reduceNeg, eitherK]) | (refine Rn.f ?hc ?_; case hc => simp (config := { implicitDefEqProofs := false, maxSteps := 2000000 }) (disch := omega) only [ps, ↓reduceIte, reduceCtorEq, Int.reduceLT, Int.reduceLE, Int.reduceEq, Nat.reduceLT, Nat.reduceLeDiff, Nat.reduceEqDiff, Int.reduceNeg, eitherK]))
      (first | (refine Rn.t ?hc ?_; case hc => simp (config := { implicitDefEqProofs := false, maxSteps := 2000000 }) (disch := omega) only [ps, ↓reduceIte, reduceCtorEq, Int.reduceLT, Int.reduceLE, Int.reduceEq, Nat.reduceLT, Nat.reduceLeDiff, Nat.reduceEqDiff, Int.reduceNeg, eitherK]) | (refine Rn.f ?hc ?_; case hc => simp (config := { implicitDefEqProofs := false, maxSteps := 2000000 }) (disch := omega) only [ps, ↓reduceIte, reduceCtorEq, Int.reduceLT, Int.reduceLE, Int.reduceEq, Nat.reduceLT, Nat.reduceLeDiff, Nat.reduceEqDiff, Int.reduceNeg, eitherK]))
      refine Rn.bind hodd ?_
      (first | (refine Rn.t ?hc ?_; case hc => simp (config := { implicitDefEqProofs := false, maxSteps := 2000000 }) (disch := omega) only [ps, ↓reduceIte, reduceCtorEq, Int.reduceLT, Int.reduceLE, Int.reduceEq, Nat.reduceLT, Nat.reduceLeDiff, Nat.reduceEqDiff, Int.reduceNeg, eitherK]) | (refine Rn.f ?hc ?_; case hc => simp (config := { implicitDefEqProofs := false, maxSteps := 2000000 }) (disch := omega) only [ps, ↓reduceIte, reduceCtorEq, Int.reduceLT, Int.reduceLE, Int.reduceEq, Nat.reduceLT, Nat.reduceLeDiff, Nat.reduceEqDiff, Int.reduceNeg, eitherK]))
      exact Rn.bind hsg (Rn.bind c1 (Rn.bind d1' (Rn.pure _)))
  · have hv : nearI x d = x.tdiv d := if_neg hup
    rw [← hv] at a2
    refine ⟨s, q, Rn.up (f := fun k => Frat_Near_ddu k n0 n1 false d1) ?_, a2, by omega⟩
    show Rn (fun k => brat_Near_ddu k n0 n1 false d1) _
    unfold brat_Near_ddu
    refine Rn.bind a1 (Rn.bind hab (Rn.bind hadd (Rn.bind hcmp ?_)))
    have h1 : ¬ d < 2 * ((x.tmod d).natAbs : Int) := fun h => hup (.inl h)
    by_cases h2 : 2 * ((x.tmod d).natAbs : Int) = d
    · have h3 : ¬ x.tdiv d % 2 ≠ 0 := fun h => hup (.inr ⟨h2, h⟩)
      rw [decide_eq_false h3] at hodd
      (first | (refine Rn.t ?hc ?_; case hc => simp (config := { implicitDefEqProofs := false, maxSteps := 2000000 }) (disch := omega) only [ps, ↓reduceIte, reduceCtorEq, Int.reduceLT, Int.reduceLE, Int.reduceEq, Nat.reduceLT, Nat.reduceLeDiff, Nat.reduceEqDiff, Int.reduceNeg, eitherK]) | (refine Rn.f ?hc ?_; case hc => simp (config := { implicitDefEqProofs := false, maxSteps := 2000000 }) (disch := omega) only [ps, ↓reduceIte, reduceCtorEq, Int.reduceLT, Int.reduceLE, Int.reduceEq, Nat.reduceLT, Nat.reduceLeDiff, Nat.reduceEqDiff, Int.reduceNeg, eitherK]))
      (first | (refine Rn.t ?hc ?_; case hc => simp (config := { implicitDefEqProofs := false, maxSteps := 2000000 }) (disch := omega) only [ps, ↓reduceIte, reduceCtorEq, Int.reduceLT, Int.reduceLE, Int.reduceEq, Nat.reduceLT, Nat.reduceLeDiff, Nat.reduceEqDiff, Int.reduceNeg, eitherK]) | (refine Rn.f ?hc ?_; case hc => simp (config := { implicitDefEqProofs := false, maxSteps := 2000000 }) (disch := omega) only [ps, ↓reduceIte, reduceCtorEq, Int.reduceLT, Int.reduceLE, Int.reduceEq, Nat.reduceLT, Nat.reduceLeDiff, Nat.reduceEqDiff, Int.reduceNeg, eitherK]))
      refine Rn.bind hodd ?_
      (first | (refine Rn.t ?hc ?_; case hc => simp (config := { implicitDefEqProofs := false, maxSteps := 2000000 }) (disch := omega) only [ps, ↓reduceIte, reduceCtorEq, Int.reduceLT, Int.reduceLE, Int.reduceEq, Nat.reduceLT, Nat.reduceLeDiff, Nat.reduceEqDiff, Int.reduceNeg, eitherK]) | (refine Rn.f ?hc ?_; case hc => simp (config := { implicitDefEqProofs := false, maxSteps := 2000000 }) (disch := omega) only [ps, ↓reduceIte, reduceCtorEq, Int.reduceLT, Int.reduceLE, Int.reduceEq, Nat.reduceLT, Nat.reduceLeDiff, Nat.reduceEqDiff, Int.reduceNeg, eitherK]))
      exact Rn.pure _
    · (first | (refine Rn.t ?hc ?_; case hc => simp (config := { implicitDefEqProofs := false, maxSteps := 2000000 }) (disch := omega) only [ps, ↓reduceIte, reduceCtorEq, Int.reduceLT, Int.reduceLE, Int.reduceEq, Nat.reduceLT, Nat.reduceLeDiff, Nat.reduceEqDiff, Int.reduceNeg, eitherK]) | (refine Rn.f ?hc ?_; case hc => simp (config := { implicitDefEqProofs := false, maxSteps := 2000000 }) (disch := omega) only [ps, ↓reduceIte, reduceCtorEq, Int.reduceLT, Int.reduceLE, Int.reduceEq, Nat.reduceLT, Nat.reduceLeDiff, Nat.reduceEqDiff, Int.reduceNeg, eitherK]))
      (first | (refine Rn.t ?hc ?_; case hc => simp (config := { implicitDefEqProofs := false, maxSteps := 2000000 }) (disch := omega) only [ps, ↓reduceIte, reduceCtorEq, Int.reduceLT, Int.reduceLE, Int.reduceEq, Nat.reduceLT, Nat.reduceLeDiff, Nat.reduceEqDiff, Int.reduceNeg, eitherK]) | (refine Rn.f ?hc ?_; case hc => simp (config := { implicitDefEqProofs := false, maxSteps := 2000000 }) (disch := omega) only [ps, ↓reduceIte, reduceCtorEq, Int.reduceLT, Int.reduceLE, Int.reduceEq, Nat.reduceLT, Nat.reduceLeDiff, Nat.reduceEqDiff, Int.reduceNeg, eitherK]))
      exact Rn.pure _
theorem Round_ev {n0 d0 : Bool} {n1 d1 : List Int} {q : Rat} (h : Fr n0 n1 d0 d1 q) (l1 : n1.length ≤ 72) (l3 : d1.length ≤ 72) : Rn (fun k => Frat_Round k n0 n1 d0 d1) (gridZ (nearI q.num q.den)) := by
  have hd := h.d0
  subst hd
  refine Rn.up (f := fun k => Frat_Round k n0 n1 false d1) ?_
  show Rn (fun k => brat_Round k n0 n1 false d1) _
  unfold brat_Round
  have ck := ratCheck_ev (show n1.length ≤ 9223372036854775807 by omega) (show d1.length ≤ 9223372036854775807 by omega) h.1.c.1 h.2.c.1 (n0 := n0) (d0 := false)
  rw [fr_fault h l1 l3] at ck
  refine Rn.bind ck ?_
  (first | (refine Rn.t ?hc ?_; case hc => simp (config := { implicitDefEqProofs := false, maxSteps := 2000000 }) (disch := omega) only [ps, ↓reduceIte, reduceCtorEq, Int.reduceLT, Int.reduceLE, Int.reduceEq, Nat.reduceLT, Nat.reduceLeDiff, Nat.reduceEqDiff, Int.reduceNeg, eitherK]) | (refine Rn.f ?hc ?_; case hc => simp (config := { implicitDefEqProofs := false, maxSteps := 2000000 }) (disch := omega) only [ps, ↓reduceIte, reduceCtorEq, Int.reduceLT, Int.reduceLE, Int.reduceEq, Nat.reduceLT, Nat.reduceLeDiff, Nat.reduceEqDiff, Int.reduceNeg, eitherK]))
  have t1 := Take_nm h.1 (by omega)
  have t3 := Take_nm h.2 (by omega)
  obtain ⟨s, l, e1, e2, e3⟩ := near_ev h.1 h.2 (by omega) (by omega) (Rat.den_pos' q)
  have g := Grid_ev e2 (by omega)
  exact Rn.bind t1 (Rn.bind t3 (Rn.bind e1 (Rn.bind g (Rn.pure _))))
/-- How near it is. -/
theorem near_half (x d : Int) (hd : 0 < d) : -d ≤ 2 * (x - nearI x d * d) ∧ 2 * (x - nearI x d * d) ≤ d ∧ ((2 * (x - nearI x d * d) = d ∨ 2 * (x - nearI x d * d) = -d) → nearI x d % 2 = 0) := by
  have h1 := Int.mul_tdiv_add_tmod x d
  have h2 : (x.tmod d).natAbs < d.natAbs := by
    rw [Int.natAbs_tmod]; exact Nat.mod_lt _ (by omega)
  have h3 : 0 ≤ x → 0 ≤ x.tmod d := fun h => Int.tmod_nonneg _ h
  have h4 : x ≤ 0 → x.tmod d ≤ 0 := fun h => by
    have := Int.tmod_nonneg (a := -x) d (by omega)
    rw [Int.neg_tmod] at this
    omega
  have hs := Int.sign_trichotomy x
  have hs1 : 0 < x → x.sign = 1 := Int.sign_eq_one_of_pos
  have hs2 : x < 0 → x.sign = -1 := Int.sign_eq_neg_one_of_neg
  unfold nearI
  generalize x.tmod d = r at *
  generalize x.tdiv d = q at *
  split
  · rename_i hc
    have hx : x ≠ 0 := by
      intro h
      have a := h3 (by omega)
      have b := h4 (by omega)
      omega
    rcases (by omega : 0 < x ∨ x < 0) with h | h
    · rw [hs1 h, Int.add_mul, Int.one_mul, Int.mul_comm q]
      have := h3 (by omega)
      refine ⟨by omega, by omega, fun ht => by omega⟩
    · rw [hs2 h, Int.add_mul, Int.mul_comm q]
      have := h4 (by omega)
      refine ⟨by omega, by omega, fun ht => by omega⟩
  · rename_i hc
    rw [Int.mul_comm q]
    refine ⟨by omega, by omega, fun ht => ?_⟩
    have : 2 * (r.natAbs : Int) = d := by omega
    rcases Int.emod_two_eq q with h | h
    · exact h
    · exact absurd (.inr ⟨this, by omega⟩) hc
/-- Greater numbers aren't rounded to lesser ones. -/
theorem near_mono {x d y e : Int} (hd : 0 < d) (he : 0 < e) (h : x * e < y * d) : nearI x d ≤ nearI y e := by
  obtain ⟨a1, a2, -⟩ := near_half x d hd
  obtain ⟨b1, b2, -⟩ := near_half y e he
  generalize nearI x d = n at *
  generalize nearI y e = m at *
  refine Int.not_lt.1 fun hlt => ?_
  have h1 : (2 * n - 1) * d ≤ 2 * x := by
    have : (2 * n - 1) * d = 2 * (n * d) - d := by grind
    omega
  have h2 : 2 * y ≤ (2 * m + 1) * e := by
    have : (2 * m + 1) * e = 2 * (m * e) + e := by grind
    omega
  have h3 : (2 * n - 1) * d * e ≤ 2 * x * e := Int.mul_le_mul_of_nonneg_right h1 (by omega)
  have h4 : 2 * y * d ≤ (2 * m + 1) * e * d := Int.mul_le_mul_of_nonneg_right h2 (by omega)
  have h5 : (2 * m + 1) * (d * e) ≤ (2 * n - 1) * (d * e) := Int.mul_le_mul_of_nonneg_right (by omega) (Int.mul_nonneg (by omega) (by omega))
  have e1 : 2 * x * e = 2 * (x * e) := Int.mul_assoc ..
  have e2 : 2 * y * d = 2 * (y * d) := Int.mul_assoc ..
  have e3 : (2 * n - 1) * d * e = (2 * n - 1) * (d * e) := Int.mul_assoc ..
  have e4 : (2 * m + 1) * e * d = (2 * m + 1) * (d * e) := by rw [Int.mul_assoc, Int.mul_comm e d]
  omega
theorem dle {a b c d : Int} (hb : 0 < b) (hd : 0 < d) : Rat.divInt a b ≤ Rat.divInt c d ↔ a * d ≤ c * b := by
  rw [Rat.le_iff_sub_nonneg, Rat.divInt_sub_divInt _ _ (by omega) (by omega), Rat.divInt_nonneg_iff_of_pos_right (Int.mul_pos hd hb)]
  omega
end Go.Proofs.Ytjgpegpjmkgkkaa.Am

/- A rounded fraction is a half away at most, and rounding never falls: the plain statement. -/
set_option linter.unusedVariables false
set_option linter.unusedSimpArgs false
set_option maxRecDepth 10000
namespace Go.Proofs.Ytjgpegpjmkgkkaa.Am
open Go
def roundTail (k : Nat) (a0 : Bool) (a1 : List Int) (a2 : Bool) (a3 : List Int) (b0 : Bool) (b1 : List Int) (b2 : Bool) (b3 : List Int) (n : Int) (g : Int × Int) : Option Bool :=
  Option.bind (Frat_Cmp k a0 a1 a2 a3 b0 b1 b2 b3) fun r10 =>
  if ((r10.2 == (0 : Int)) = true) then
    if ((g.2 != (0 : Int)) = false) then
      if ((r10.1 == (0 : Int)) = true) then
        if ((n == g.1) = false) then
          if ((decide (r10.1 < (0 : Int))) = true) then
            if ((decide (n ≤ g.1)) = false) then
              if ((decide (r10.1 > (0 : Int))) = true) then
                (some (decide (n ≥ g.1)))
              else
              (some false)
            else
            (some true)
          else
          if ((decide (r10.1 > (0 : Int))) = true) then
            (some (decide (n ≥ g.1)))
          else
          (some false)
        else
        (some true)
      else
      if ((decide (r10.1 < (0 : Int))) = true) then
        if ((decide (n ≤ g.1)) = false) then
          if ((decide (r10.1 > (0 : Int))) = true) then
            (some (decide (n ≥ g.1)))
          else
          (some false)
        else
        (some true)
      else
      if ((decide (r10.1 > (0 : Int))) = true) then
        (some (decide (n ≥ g.1)))
      else
      (some false)
    else
    (some true)
  else
  (some false)
theorem roundTail_ev {a0 a2 b0 b2 : Bool} {a1 a3 b1 b3 : List Int} {x y : Rat} (fx : Fr a0 a1 a2 a3 x) (fy : Fr b0 b1 b2 b3 y) (la1 : a1.length ≤ 72) (la3 : a3.length ≤ 72) (lb1 : b1.length ≤ 72) (lb3 : b3.length ≤ 72) :
    Rn (fun k => roundTail k a0 a1 a2 a3 b0 b1 b2 b3 (nearI x.num x.den) (gridZ (nearI y.num y.den))) true := by
  unfold roundTail
  obtain ⟨c, hc, hcc⟩ := cmpR_cases x y
  have k1 := ratCmp_ev fx fy la1 la3 lb1 lb3
  rw [hc] at k1
  refine Rn.bind k1 ?_
  (first | (refine Rn.t ?hc ?_; case hc => simp (config := { implicitDefEqProofs := false, maxSteps := 2000000 }) (disch := omega) only [ps, ↓reduceIte, reduceCtorEq, Int.reduceLT, Int.reduceLE, Int.reduceEq, Nat.reduceLT, Nat.reduceLeDiff, Nat.reduceEqDiff, Int.reduceNeg, eitherK]) | (refine Rn.f ?hc ?_; case hc => simp (config := { implicitDefEqProofs := false, maxSteps := 2000000 }) (disch := omega) only [ps, ↓reduceIte, reduceCtorEq, Int.reduceLT, Int.reduceLE, Int.reduceEq, Nat.reduceLT, Nat.reduceLeDiff, Nat.reduceEqDiff, Int.reduceNeg, eitherK]))
  by_cases hg : -1000000000000000000 ≤ nearI y.num y.den ∧ nearI y.num y.den ≤ 1000000000000000000
  case neg =>
    have e : gridZ (nearI y.num y.den) = (0, 4) := if_neg hg
    rw [e]
    (first | (refine Rn.t ?hc ?_; case hc => simp (config := { implicitDefEqProofs := false, maxSteps := 2000000 }) (disch := omega) only [ps, ↓reduceIte, reduceCtorEq, Int.reduceLT, Int.reduceLE, Int.reduceEq, Nat.reduceLT, Nat.reduceLeDiff, Nat.reduceEqDiff, Int.reduceNeg, eitherK]) | (refine Rn.f ?hc ?_; case hc => simp (config := { implicitDefEqProofs := false, maxSteps := 2000000 }) (disch := omega) only [ps, ↓reduceIte, reduceCtorEq, Int.reduceLT, Int.reduceLE, Int.reduceEq, Nat.reduceLT, Nat.reduceLeDiff, Nat.reduceEqDiff, Int.reduceNeg, eitherK]))
    exact Rn.pure _
  have e : gridZ (nearI y.num y.den) = (nearI y.num y.den, 0) := if_pos hg
  rw [e]
  (first | (refine Rn.t ?hc ?_; case hc => simp (config := { implicitDefEqProofs := false, maxSteps := 2000000 }) (disch := omega) only [ps, ↓reduceIte, reduceCtorEq, Int.reduceLT, Int.reduceLE, Int.reduceEq, Nat.reduceLT, Nat.reduceLeDiff, Nat.reduceEqDiff, Int.reduceNeg, eitherK]) | (refine Rn.f ?hc ?_; case hc => simp (config := { implicitDefEqProofs := false, maxSteps := 2000000 }) (disch := omega) only [ps, ↓reduceIte, reduceCtorEq, Int.reduceLT, Int.reduceLE, Int.reduceEq, Nat.reduceLT, Nat.reduceLeDiff, Nat.reduceEqDiff, Int.reduceNeg, eitherK]))
  have dx := Rat.den_pos' x
  have dy := Rat.den_pos' y
  rcases hcc with ⟨rfl, h⟩ | ⟨rfl, h⟩ | ⟨rfl, h⟩
  · have hm := near_mono dx dy ((Rat.lt_iff x y).1 h)
    (first | (refine Rn.t ?hc ?_; case hc => simp (config := { implicitDefEqProofs := false, maxSteps := 2000000 }) (disch := omega) only [ps, ↓reduceIte, reduceCtorEq, Int.reduceLT, Int.reduceLE, Int.reduceEq, Nat.reduceLT, Nat.reduceLeDiff, Nat.reduceEqDiff, Int.reduceNeg, eitherK]) | (refine Rn.f ?hc ?_; case hc => simp (config := { implicitDefEqProofs := false, maxSteps := 2000000 }) (disch := omega) only [ps, ↓reduceIte, reduceCtorEq, Int.reduceLT, Int.reduceLE, Int.reduceEq, Nat.reduceLT, Nat.reduceLeDiff, Nat.reduceEqDiff, Int.reduceNeg, eitherK]))
    (first | (refine Rn.t ?hc ?_; case hc => simp (config := { implicitDefEqProofs := false, maxSteps := 2000000 }) (disch := omega) only [ps, ↓reduceIte, reduceCtorEq, Int.reduceLT, Int.reduceLE, Int.reduceEq, Nat.reduceLT, Nat.reduceLeDiff, Nat.reduceEqDiff, Int.reduceNeg, eitherK]) | (refine Rn.f ?hc ?_; case hc => simp (config := { implicitDefEqProofs := false, maxSteps := 2000000 }) (disch := omega) only [ps, ↓reduceIte, reduceCtorEq, Int.reduceLT, Int.reduceLE, Int.reduceEq, Nat.reduceLT, Nat.reduceLeDiff, Nat.reduceEqDiff, Int.reduceNeg, eitherK]))
    (first | (refine Rn.t ?hc ?_; case hc => simp (config := { implicitDefEqProofs := false, maxSteps := 2000000 }) (disch := omega) only [ps, ↓reduceIte, reduceCtorEq, Int.reduceLT, Int.reduceLE, Int.reduceEq, Nat.reduceLT, Nat.reduceLeDiff, Nat.reduceEqDiff, Int.reduceNeg, eitherK]) | (refine Rn.f ?hc ?_; case hc => simp (config := { implicitDefEqProofs := false, maxSteps := 2000000 }) (disch := omega) only [ps, ↓reduceIte, reduceCtorEq, Int.reduceLT, Int.reduceLE, Int.reduceEq, Nat.reduceLT, Nat.reduceLeDiff, Nat.reduceEqDiff, Int.reduceNeg, eitherK]))
    exact Rn.pure _
  · subst h
    (first | (refine Rn.t ?hc ?_; case hc => simp (config := { implicitDefEqProofs := false, maxSteps := 2000000 }) (disch := omega) only [ps, ↓reduceIte, reduceCtorEq, Int.reduceLT, Int.reduceLE, Int.reduceEq, Nat.reduceLT, Nat.reduceLeDiff, Nat.reduceEqDiff, Int.reduceNeg, eitherK]) | (refine Rn.f ?hc ?_; case hc => simp (config := { implicitDefEqProofs := false, maxSteps := 2000000 }) (disch := omega) only [ps, ↓reduceIte, reduceCtorEq, Int.reduceLT, Int.reduceLE, Int.reduceEq, Nat.reduceLT, Nat.reduceLeDiff, Nat.reduceEqDiff, Int.reduceNeg, eitherK]))
    (first | (refine Rn.t ?hc ?_; case hc => simp (config := { implicitDefEqProofs := false, maxSteps := 2000000 }) (disch := omega) only [ps, ↓reduceIte, reduceCtorEq, Int.reduceLT, Int.reduceLE, Int.reduceEq, Nat.reduceLT, Nat.reduceLeDiff, Nat.reduceEqDiff, Int.reduceNeg, eitherK]) | (refine Rn.f ?hc ?_; case hc => simp (config := { implicitDefEqProofs := false, maxSteps := 2000000 }) (disch := omega) only [ps, ↓reduceIte, reduceCtorEq, Int.reduceLT, Int.reduceLE, Int.reduceEq, Nat.reduceLT, Nat.reduceLeDiff, Nat.reduceEqDiff, Int.reduceNeg, eitherK]))
    exact Rn.pure _
  · have hm := near_mono dy dx ((Rat.lt_iff y x).1 h)
    (first | (refine Rn.t ?hc ?_; case hc => simp (config := { implicitDefEqProofs := false, maxSteps := 2000000 }) (disch := omega) only [ps, ↓reduceIte, reduceCtorEq, Int.reduceLT, Int.reduceLE, Int.reduceEq, Nat.reduceLT, Nat.reduceLeDiff, Nat.reduceEqDiff, Int.reduceNeg, eitherK]) | (refine Rn.f ?hc ?_; case hc => simp (config := { implicitDefEqProofs := false, maxSteps := 2000000 }) (disch := omega) only [ps, ↓reduceIte, reduceCtorEq, Int.reduceLT, Int.reduceLE, Int.reduceEq, Nat.reduceLT, Nat.reduceLeDiff, Nat.reduceEqDiff, Int.reduceNeg, eitherK]))
    (first | (refine Rn.t ?hc ?_; case hc => simp (config := { implicitDefEqProofs := false, maxSteps := 2000000 }) (disch := omega) only [ps, ↓reduceIte, reduceCtorEq, Int.reduceLT, Int.reduceLE, Int.reduceEq, Nat.reduceLT, Nat.reduceLeDiff, Nat.reduceEqDiff, Int.reduceNeg, eitherK]) | (refine Rn.f ?hc ?_; case hc => simp (config := { implicitDefEqProofs := false, maxSteps := 2000000 }) (disch := omega) only [ps, ↓reduceIte, reduceCtorEq, Int.reduceLT, Int.reduceLE, Int.reduceEq, Nat.reduceLT, Nat.reduceLeDiff, Nat.reduceEqDiff, Int.reduceNeg, eitherK]))
    (first | (refine Rn.t ?hc ?_; case hc => simp (config := { implicitDefEqProofs := false, maxSteps := 2000000 }) (disch := omega) only [ps, ↓reduceIte, reduceCtorEq, Int.reduceLT, Int.reduceLE, Int.reduceEq, Nat.reduceLT, Nat.reduceLeDiff, Nat.reduceEqDiff, Int.reduceNeg, eitherK]) | (refine Rn.f ?hc ?_; case hc => simp (config := { implicitDefEqProofs := false, maxSteps := 2000000 }) (disch := omega) only [ps, ↓reduceIte, reduceCtorEq, Int.reduceLT, Int.reduceLE, Int.reduceEq, Nat.reduceLT, Nat.reduceLeDiff, Nat.reduceEqDiff, Int.reduceNeg, eitherK]))
    have : decide (nearI x.num x.den ≥ nearI y.num y.den) = true := decide_eq_true hm
    rw [this]
    exact Rn.pure _
set_option maxHeartbeats 2000000 in
theorem pure_RatRounds (a b : RT) (wa : Wfd (.pr (.pr .bool (.sl (.int .u32))) (.pr .bool (.sl (.int .u32)))) a) (wb : Wfd (.pr (.pr .bool (.sl (.int .u32))) (.pr .bool (.sl (.int .u32)))) b) :
    ∃ k, Fshuntlaw02_RatRounds k a.1.1 a.1.2 a.2.1 a.2.2 b.1.1 b.1.2 b.2.1 b.2.2 = some true := by
  have ga := rt_good wa
  have gb := rt_good wb
  have hF := Faults_ev [a, b] (by simp) (fun r hr => by
    simp only [List.mem_cons, List.not_mem_nil, or_false] at hr
    rcases hr with rfl | rfl <;> assumption)
  have hz := faultsR_zero [a, b] 0
  obtain ⟨⟨a0, a1⟩, a2, a3⟩ := a
  obtain ⟨⟨b0, b1⟩, b2, b3⟩ := b
  refine Rn.get (Rn.up (f := fun k => Fshuntlaw02_RatRounds k a0 a1 a2 a3 b0 b1 b2 b3) ?_)
  show Rn (fun k => bshuntlaw02_RatRounds k a0 a1 a2 a3 b0 b1 b2 b3) _
  unfold bshuntlaw02_RatRounds
  refine Rn.bind awake_ev ?_
  (first | (refine Rn.t ?hc ?_; case hc => simp (config := { implicitDefEqProofs := false, maxSteps := 2000000 }) (disch := omega) only [ps, ↓reduceIte, reduceCtorEq, Int.reduceLT, Int.reduceLE, Int.reduceEq, Nat.reduceLT, Nat.reduceLeDiff, Nat.reduceEqDiff, Int.reduceNeg, eitherK]) | (refine Rn.f ?hc ?_; case hc => simp (config := { implicitDefEqProofs := false, maxSteps := 2000000 }) (disch := omega) only [ps, ↓reduceIte, reduceCtorEq, Int.reduceLT, Int.reduceLE, Int.reduceEq, Nat.reduceLT, Nat.reduceLeDiff, Nat.reduceEqDiff, Int.reduceNeg, eitherK]))
  refine Rn.bind (f := fun k => Fshuntref02_Faults k (List.take 2 [((a0, a1), (a2, a3)), ((b0, b1), (b2, b3))])) hF ?_
  generalize faultsR 0 [((a0, a1), (a2, a3)), ((b0, b1), (b2, b3))] = w at *
  by_cases h0 : w = 0
  case neg => (first | (refine Rn.t ?hc ?_; case hc => simp (config := { implicitDefEqProofs := false, maxSteps := 2000000 }) (disch := omega) only [ps, ↓reduceIte, reduceCtorEq, Int.reduceLT, Int.reduceLE, Int.reduceEq, Nat.reduceLT, Nat.reduceLeDiff, Nat.reduceEqDiff, Int.reduceNeg, eitherK]) | (refine Rn.f ?hc ?_; case hc => simp (config := { implicitDefEqProofs := false, maxSteps := 2000000 }) (disch := omega) only [ps, ↓reduceIte, reduceCtorEq, Int.reduceLT, Int.reduceLE, Int.reduceEq, Nat.reduceLT, Nat.reduceLeDiff, Nat.reduceEqDiff, Int.reduceNeg, eitherK])); exact Rn.pure _
  (first | (refine Rn.t ?hc ?_; case hc => simp (config := { implicitDefEqProofs := false, maxSteps := 2000000 }) (disch := omega) only [ps, ↓reduceIte, reduceCtorEq, Int.reduceLT, Int.reduceLE, Int.reduceEq, Nat.reduceLT, Nat.reduceLeDiff, Nat.reduceEqDiff, Int.reduceNeg, eitherK]) | (refine Rn.f ?hc ?_; case hc => simp (config := { implicitDefEqProofs := false, maxSteps := 2000000 }) (disch := omega) only [ps, ↓reduceIte, reduceCtorEq, Int.reduceLT, Int.reduceLE, Int.reduceEq, Nat.reduceLT, Nat.reduceLeDiff, Nat.reduceEqDiff, Int.reduceNeg, eitherK]))
  have hall := (hz.1 h0).2
  obtain ⟨x, fx, la1, la3⟩ := fault_fr ga.1.2 ga.2.2 (hall ((a0, a1), (a2, a3)) (by simp))
  obtain ⟨y, fy, lb1, lb3⟩ := fault_fr gb.1.2 gb.2.2 (hall ((b0, b1), (b2, b3)) (by simp))
  simp only at fx fy la1 la3 lb1 lb3
  clear hall hz hF ga gb wa wb
  by_cases h60 : (a1.length : Int) + a3.length + b1.length + b3.length ≤ 60
  case neg => (first | (refine Rn.t ?hc ?_; case hc => simp (config := { implicitDefEqProofs := false, maxSteps := 2000000 }) (disch := omega) only [ps, ↓reduceIte, reduceCtorEq, Int.reduceLT, Int.reduceLE, Int.reduceEq, Nat.reduceLT, Nat.reduceLeDiff, Nat.reduceEqDiff, Int.reduceNeg, eitherK]) | (refine Rn.f ?hc ?_; case hc => simp (config := { implicitDefEqProofs := false, maxSteps := 2000000 }) (disch := omega) only [ps, ↓reduceIte, reduceCtorEq, Int.reduceLT, Int.reduceLE, Int.reduceEq, Nat.reduceLT, Nat.reduceLeDiff, Nat.reduceEqDiff, Int.reduceNeg, eitherK])); exact Rn.pure _
  (first | (refine Rn.t ?hc ?_; case hc => simp (config := { implicitDefEqProofs := false, maxSteps := 2000000 }) (disch := omega) only [ps, ↓reduceIte, reduceCtorEq, Int.reduceLT, Int.reduceLE, Int.reduceEq, Nat.reduceLT, Nat.reduceLeDiff, Nat.reduceEqDiff, Int.reduceNeg, eitherK]) | (refine Rn.f ?hc ?_; case hc => simp (config := { implicitDefEqProofs := false, maxSteps := 2000000 }) (disch := omega) only [ps, ↓reduceIte, reduceCtorEq, Int.reduceLT, Int.reduceLE, Int.reduceEq, Nat.reduceLT, Nat.reduceLeDiff, Nat.reduceEqDiff, Int.reduceNeg, eitherK]))
  refine Rn.bind (Round_ev fx la1 la3) (Rn.bind (Round_ev fy lb1 lb3) ?_)
  have dx := Rat.den_pos' x
  obtain ⟨n1, n2, n3⟩ := near_half x.num x.den dx
  have tail := roundTail_ev fx fy la1 la3 lb1 lb3
  by_cases hg : -1000000000000000000 ≤ nearI x.num x.den ∧ nearI x.num x.den ≤ 1000000000000000000
  case neg =>
    have e : gridZ (nearI x.num x.den) = (0, 4) := if_neg hg
    rw [e]
    (first | (refine Rn.t ?hc ?_; case hc => simp (config := { implicitDefEqProofs := false, maxSteps := 2000000 }) (disch := omega) only [ps, ↓reduceIte, reduceCtorEq, Int.reduceLT, Int.reduceLE, Int.reduceEq, Nat.reduceLT, Nat.reduceLeDiff, Nat.reduceEqDiff, Int.reduceNeg, eitherK]) | (refine Rn.f ?hc ?_; case hc => simp (config := { implicitDefEqProofs := false, maxSteps := 2000000 }) (disch := omega) only [ps, ↓reduceIte, reduceCtorEq, Int.reduceLT, Int.reduceLE, Int.reduceEq, Nat.reduceLT, Nat.reduceLeDiff, Nat.reduceEqDiff, Int.reduceNeg, eitherK]))
    obtain ⟨s0, s1, s2, s3, o1, o2, o3, o4⟩ := of2_ev 1000000000000000000 1 (by decide) (by decide) (by decide)
    obtain ⟨t0, t1, t2, t3, p1, p2, p3, p4⟩ := of2_ev (-1000000000000000000) 1 (by decide) (by decide) (by decide)
    have c1 := ratCmp_ev fx o2 la1 la3 (by omega) (by omega)
    have c2 := ratCmp_ev fx p2 la1 la3 (by omega) (by omega)
    obtain ⟨u, hu, huu⟩ := cmpR_cases x (Rat.divInt 1000000000000000000 1)
    obtain ⟨v, hv, hvv⟩ := cmpR_cases x (Rat.divInt (-1000000000000000000) 1)
    rw [hu] at c1
    rw [hv] at c2
    refine Rn.bind o1 (Rn.bind c1 (Rn.bind p1 (Rn.bind c2 ?_)))
    (first | (refine Rn.t ?hc ?_; case hc => simp (config := { implicitDefEqProofs := false, maxSteps := 2000000 }) (disch := omega) only [ps, ↓reduceIte, reduceCtorEq, Int.reduceLT, Int.reduceLE, Int.reduceEq, Nat.reduceLT, Nat.reduceLeDiff, Nat.reduceEqDiff, Int.reduceNeg, eitherK]) | (refine Rn.f ?hc ?_; case hc => simp (config := { implicitDefEqProofs := false, maxSteps := 2000000 }) (disch := omega) only [ps, ↓reduceIte, reduceCtorEq, Int.reduceLT, Int.reduceLE, Int.reduceEq, Nat.reduceLT, Nat.reduceLeDiff, Nat.reduceEqDiff, Int.reduceNeg, eitherK]))
    (first | (refine Rn.t ?hc ?_; case hc => simp (config := { implicitDefEqProofs := false, maxSteps := 2000000 }) (disch := omega) only [ps, ↓reduceIte, reduceCtorEq, Int.reduceLT, Int.reduceLE, Int.reduceEq, Nat.reduceLT, Nat.reduceLeDiff, Nat.reduceEqDiff, Int.reduceNeg, eitherK]) | (refine Rn.f ?hc ?_; case hc => simp (config := { implicitDefEqProofs := false, maxSteps := 2000000 }) (disch := omega) only [ps, ↓reduceIte, reduceCtorEq, Int.reduceLT, Int.reduceLE, Int.reduceEq, Nat.reduceLT, Nat.reduceLeDiff, Nat.reduceEqDiff, Int.reduceNeg, eitherK]))
    by_cases hu1 : u > 0
    · refine Rn.f (by simp; omega) ?_
      exact Rn.pure _
    · refine Rn.t (by simp; omega) ?_
      have hle : x ≤ Rat.divInt 1000000000000000000 1 := by
        rcases huu with ⟨_, h⟩ | ⟨_, h⟩ | ⟨h, _⟩
        · grind
        · grind
        · omega
      rw [← Rat.num_divInt_den x, dle dx (by decide)] at hle
      have hn : nearI x.num x.den < -1000000000000000000 := by
        have hq : nearI x.num x.den ≤ 1000000000000000000 := by
          refine Int.not_lt.1 fun hlt => ?_
          have : 1000000000000000001 * (x.den : Int) ≤ nearI x.num x.den * x.den := Int.mul_le_mul_of_nonneg_right (by omega) (by omega)
          omega
        omega
      have hlt : v < 0 := by
        rcases hvv with ⟨h, _⟩ | ⟨_, h⟩ | ⟨_, h⟩
        · omega
        · have hge : Rat.divInt (-1000000000000000000) 1 ≤ x := by grind
          rw [← Rat.num_divInt_den x, dle (by decide) dx] at hge
          have : nearI x.num x.den * x.den ≤ -1000000000000000001 * (x.den : Int) := Int.mul_le_mul_of_nonneg_right (by omega) (by omega)
          omega
        · have hge : Rat.divInt (-1000000000000000000) 1 ≤ x := by grind
          rw [← Rat.num_divInt_den x, dle (by decide) dx] at hge
          have : nearI x.num x.den * x.den ≤ -1000000000000000001 * (x.den : Int) := Int.mul_le_mul_of_nonneg_right (by omega) (by omega)
          omega
      have : decide (v < 0) = true := decide_eq_true hlt
      simp only [this]
      exact Rn.pure _
  have e : gridZ (nearI x.num x.den) = (nearI x.num x.den, 0) := if_pos hg
  rw [e]
  (first | (refine Rn.t ?hc ?_; case hc => simp (config := { implicitDefEqProofs := false, maxSteps := 2000000 }) (disch := omega) only [ps, ↓reduceIte, reduceCtorEq, Int.reduceLT, Int.reduceLE, Int.reduceEq, Nat.reduceLT, Nat.reduceLeDiff, Nat.reduceEqDiff, Int.reduceNeg, eitherK]) | (refine Rn.f ?hc ?_; case hc => simp (config := { implicitDefEqProofs := false, maxSteps := 2000000 }) (disch := omega) only [ps, ↓reduceIte, reduceCtorEq, Int.reduceLT, Int.reduceLE, Int.reduceEq, Nat.reduceLT, Nat.reduceLeDiff, Nat.reduceEqDiff, Int.reduceNeg, eitherK]))
  obtain ⟨s0, s1, s2, s3, o1, o2, o3, o4⟩ := of2_ev (nearI x.num x.den) 1 (by omega) (by decide) (by decide)
  obtain ⟨d0, d1, d2, d3, p1, ⟨p2, p3⟩, p4⟩ := ratSub_ev fx o2 la1 la3 (by omega) (by omega)
  rw [ansR_le (by omega) (by omega)] at p4
  refine Rn.bind o1 (Rn.bind p4 ?_)
  (first | (refine Rn.t ?hc ?_; case hc => simp (config := { implicitDefEqProofs := false, maxSteps := 2000000 }) (disch := omega) only [ps, ↓reduceIte, reduceCtorEq, Int.reduceLT, Int.reduceLE, Int.reduceEq, Nat.reduceLT, Nat.reduceLeDiff, Nat.reduceEqDiff, Int.reduceNeg, eitherK]) | (refine Rn.f ?hc ?_; case hc => simp (config := { implicitDefEqProofs := false, maxSteps := 2000000 }) (disch := omega) only [ps, ↓reduceIte, reduceCtorEq, Int.reduceLT, Int.reduceLE, Int.reduceEq, Nat.reduceLT, Nat.reduceLeDiff, Nat.reduceEqDiff, Int.reduceNeg, eitherK]))
  obtain ⟨t0, t1, t2, t3, q1, q2, q3, q4⟩ := of2_ev 1 2 (by decide) (by decide) (by decide)
  obtain ⟨u0, u1, u2, u3, r1, r2, r3, r4⟩ := of2_ev (-1) 2 (by decide) (by decide) (by decide)
  have c1 := ratCmp_ev p1 q2 (by omega) (by omega) (by omega) (by omega)
  have c2 := ratCmp_ev p1 r2 (by omega) (by omega) (by omega) (by omega)
  have hdiff : x - Rat.divInt (nearI x.num x.den) 1 = Rat.divInt (x.num - nearI x.num x.den * x.den) x.den := by
    have h := Rat.divInt_sub_divInt x.num (nearI x.num x.den) (d₁ := (x.den : Int)) (d₂ := 1) (by omega) (by decide)
    rw [Rat.num_divInt_den, Int.mul_one, Int.mul_one] at h
    exact h
  rw [hdiff] at c1 c2
  obtain ⟨u, hu, huu⟩ := cmpR_cases (Rat.divInt (x.num - nearI x.num x.den * x.den) x.den) (Rat.divInt 1 2)
  obtain ⟨v, hv, hvv⟩ := cmpR_cases (Rat.divInt (x.num - nearI x.num x.den * x.den) x.den) (Rat.divInt (-1) 2)
  rw [hu] at c1
  rw [hv] at c2
  have le1 := (dle (a := x.num - nearI x.num x.den * x.den) (c := 1) (d := 2) dx (by decide)).2 (by omega)
  have le2 := (dle (a := -1) (b := 2) (c := x.num - nearI x.num x.den * x.den) (d := x.den) (by decide) dx).2 (by omega)
  refine Rn.bind q1 (Rn.bind c1 (Rn.bind r1 (Rn.bind c2 ?_)))
  (first | (refine Rn.t ?hc ?_; case hc => simp (config := { implicitDefEqProofs := false, maxSteps := 2000000 }) (disch := omega) only [ps, ↓reduceIte, reduceCtorEq, Int.reduceLT, Int.reduceLE, Int.reduceEq, Nat.reduceLT, Nat.reduceLeDiff, Nat.reduceEqDiff, Int.reduceNeg, eitherK]) | (refine Rn.f ?hc ?_; case hc => simp (config := { implicitDefEqProofs := false, maxSteps := 2000000 }) (disch := omega) only [ps, ↓reduceIte, reduceCtorEq, Int.reduceLT, Int.reduceLE, Int.reduceEq, Nat.reduceLT, Nat.reduceLeDiff, Nat.reduceEqDiff, Int.reduceNeg, eitherK]))
  (first | (refine Rn.t ?hc ?_; case hc => simp (config := { implicitDefEqProofs := false, maxSteps := 2000000 }) (disch := omega) only [ps, ↓reduceIte, reduceCtorEq, Int.reduceLT, Int.reduceLE, Int.reduceEq, Nat.reduceLT, Nat.reduceLeDiff, Nat.reduceEqDiff, Int.reduceNeg, eitherK]) | (refine Rn.f ?hc ?_; case hc => simp (config := { implicitDefEqProofs := false, maxSteps := 2000000 }) (disch := omega) only [ps, ↓reduceIte, reduceCtorEq, Int.reduceLT, Int.reduceLE, Int.reduceEq, Nat.reduceLT, Nat.reduceLeDiff, Nat.reduceEqDiff, Int.reduceNeg, eitherK]))
  have hu0 : u = -1 ∨ u = 0 := by
    rcases huu with ⟨h, _⟩ | ⟨h, _⟩ | ⟨_, h⟩
    · exact .inl h
    · exact .inr h
    · exact absurd h (by grind)
  have hv0 : v = 0 ∨ v = 1 := by
    rcases hvv with ⟨_, h⟩ | ⟨h, _⟩ | ⟨h, _⟩
    · exact absurd h (by grind)
    · exact .inl h
    · exact .inr h
  (first | (refine Rn.t ?hc ?_; case hc => simp (config := { implicitDefEqProofs := false, maxSteps := 2000000 }) (disch := omega) only [ps, ↓reduceIte, reduceCtorEq, Int.reduceLT, Int.reduceLE, Int.reduceEq, Nat.reduceLT, Nat.reduceLeDiff, Nat.reduceEqDiff, Int.reduceNeg, eitherK]) | (refine Rn.f ?hc ?_; case hc => simp (config := { implicitDefEqProofs := false, maxSteps := 2000000 }) (disch := omega) only [ps, ↓reduceIte, reduceCtorEq, Int.reduceLT, Int.reduceLE, Int.reduceEq, Nat.reduceLT, Nat.reduceLeDiff, Nat.reduceEqDiff, Int.reduceNeg, eitherK]))
  (first | (refine Rn.t ?hc ?_; case hc => simp (config := { implicitDefEqProofs := false, maxSteps := 2000000 }) (disch := omega) only [ps, ↓reduceIte, reduceCtorEq, Int.reduceLT, Int.reduceLE, Int.reduceEq, Nat.reduceLT, Nat.reduceLeDiff, Nat.reduceEqDiff, Int.reduceNeg, eitherK]) | (refine Rn.f ?hc ?_; case hc => simp (config := { implicitDefEqProofs := false, maxSteps := 2000000 }) (disch := omega) only [ps, ↓reduceIte, reduceCtorEq, Int.reduceLT, Int.reduceLE, Int.reduceEq, Nat.reduceLT, Nat.reduceLeDiff, Nat.reduceEqDiff, Int.reduceNeg, eitherK]))
  have ev : (u = 0 ∨ v = 0) → (nearI x.num x.den).tmod 2 = 0 := by
    intro h
    have h1 : nearI x.num x.den % 2 = 0 := by
      refine n3 ?_
      rcases h with h | h
      · refine .inl ?_
        have heq : Rat.divInt (x.num - nearI x.num x.den * x.den) x.den = Rat.divInt 1 2 := by
          rcases huu with ⟨_, _⟩ | ⟨_, h⟩ | ⟨_, _⟩ <;> first | assumption | omega
        rw [Rat.divInt_eq_divInt_iff (by omega) (by decide)] at heq
        omega
      · refine .inr ?_
        have heq : Rat.divInt (x.num - nearI x.num x.den * x.den) x.den = Rat.divInt (-1) 2 := by
          rcases hvv with ⟨_, _⟩ | ⟨_, h⟩ | ⟨_, _⟩ <;> first | assumption | omega
        rw [Rat.divInt_eq_divInt_iff (by omega) (by decide)] at heq
        omega
    exact Int.tmod_eq_zero_of_dvd (Int.dvd_of_emod_eq_zero h1)
  by_cases hu1 : u = 0
  · have e2 := ev (.inl hu1)
    refine Rn.f (by simp [hu1]) ?_
    refine Rn.f (by simp [e2]) ?_
    exact tail
  · refine Rn.t (by simp [hu1]) ?_
    by_cases hv1 : v = 0
    · have e2 := ev (.inr hv1)
      refine Rn.t (by simp [hv1]) ?_
      refine Rn.f (by simp [e2]) ?_
      exact tail
    · refine Rn.f (by simp [hv1]) ?_
      exact tail
end Go.Proofs.Ytjgpegpjmkgkkaa.Am

/- The law RatRounds returns true for every input, and its arguments read as they did. -/
namespace Go.Proofs.Ytjgpegpjmkgkkaa.ratRounds
open Go.ChangeShapes Go.WideShapes Go.ChangeAt Go.RowKit
open Go.Proofs.Ytjgpegpjmkgkkaa.Am
set_option linter.unusedVariables false
theorem own : ownKnob Try.prog.godebug = none := by kernel_rfl
theorem laidOut : laidOutB Try.prog = true := by kernel_rfl
set_option maxRecDepth 100000 in
theorem lifted (os : Os) (started : os.Started) (H : Type) (enc : TypeId × Value → H) :
    ReturnsInHanded {} Try.checked os 5 .any (Rows.ratRoundsSpec.pre6 enc Try.prog Try.f5 Rows.ratRoundsRow.domain false) (Rows.ratRoundsSpec.post enc Try.prog Try.f5 false true false false) := by
  refine returnsInHanded_of_change_sized (C := Try.checked) own started (by kernel_rfl) Try.func5
    (ChangeSpec.witness6 (enc := enc) (C := Try.checked) false ⟨#[], #[.agg #[.bool false, .slice none 0 0, .bool false, .slice none 0 0], .agg #[.bool false, .slice none 0 0, .bool false, .slice none 0 0]], []⟩ 8 (by kernel_rfl) (by kernel_rfl) (by kernel_rfl) (by kernel_rfl)) ?_
  intro W base args ds gs before hval0 hW hcnd hsz0 _
  have hval : ∀ (j : Nat) t v, Try.f5.params[j]? = some t → args[j]? = some v → Value.okWide Try.prog W .any base t v := hval0
  have hW' := hW
  obtain ⟨p, q, hA0, hV, rfl, hfz, hnd⟩ := hW
  have hA : DataW.TrodAll enc Try.prog W 0 (fun _ => true) true Try.f5.params.toList args.toList ds p := hA0
  rw [Try.params5] at hA hval
  obtain ⟨v0, vs0, d0, ds0, p0, q0, hargs, rfl, rfl, h0, r0⟩ := trodAll_cons hA
  obtain ⟨v1, vs1, d1, ds1, p1, q1, rfl, rfl, rfl, h1, r1⟩ := trodAll_cons r0
  obtain ⟨rfl, rfl, rfl⟩ := trodAll_nil r1
  obtain rfl : args = #[v0, v1] := by cases args; simp_all
  obtain ⟨rfl, rfl⟩ := trodVars_none hV
  have lt0 : ∀ x ∈ p0, x.block < W.heap.size := by obtain ⟨m, hm⟩ := h0; exact DataW.trod_lt m _ _ _ hm
  obtain ⟨y0, rv0, nm0, wf0⟩ := open_cd (d := 9) (c := (.pr (.pr .bool (.sl (.int .u32))) (.pr .bool (.sl (.int .u32))))) true (by kernel_rfl) (by kernel_rfl) (by kernel_rfl) (hval 0 26 v0 rfl rfl) h0
  have lt1 : ∀ x ∈ p1, x.block < W.heap.size := by obtain ⟨m, hm⟩ := h1; exact DataW.trod_lt m _ _ _ hm
  obtain ⟨y1, rv1, nm1, wf1⟩ := open_cd (d := 9) (c := (.pr (.pr .bool (.sl (.int .u32))) (.pr .bool (.sl (.int .u32))))) true (by kernel_rfl) (by kernel_rfl) (by kernel_rfl) (hval 1 26 v1 rfl rfl) h1
  clear hA0 hval0 hsz0
  obtain ⟨k, hk⟩ := pure_RatRounds y0 y1 wf0 wf1
  refine (law_inst cfg_ok (okshuntlaw02_RatRounds k) (x := (y0.1.1, y0.1.2, y0.2.1, y0.2.2, y1.1.1, y1.1.2, y1.2.1, y1.2.2)) (y := true) hk rfl (args := [argV true (.pr (.pr .bool (.sl (.int .u32))) (.pr .bool (.sl (.int .u32)))) y0, argV true (.pr (.pr .bool (.sl (.int .u32))) (.pr .bool (.sl (.int .u32)))) y1]) rfl (rvs_cons rv0 (rvs_cons rv1 rvs_nil)) (names_cons nm0 (names_cons nm1 rfl))).mono fun e W' ⟨he, bel⟩ => ?_
  subst he
  exact ⟨_, rfl, _, _, _, [], _, [], hW', trodAll_mk1 (shut_bool Try.underlying4 _), (trodAll_cons_mk (Below.trod laidOut (by kernel_rfl) (of_decide_eq_true (by kernel_rfl)) h0 bel lt0) (trodAll_cons_mk (Below.trod laidOut (by kernel_rfl) (of_decide_eq_true (by kernel_rfl)) h1 bel lt1) trodAll_mk0)), rfl, bel.frame _, fun h => by cases h⟩
theorem over : Rows.ratRoundsRow.holds Try.pinned (OpenSpec.ofChange Rows.ratRoundsSpec) :=
  OpenClaim.holds_of_wide 5 Try.f5 rfl rfl rfl rfl rfl rfl rfl ⟨rfl, rfl, rfl, rfl, rfl⟩ rfl rfl rfl rfl rfl (by kernel_rfl) Try.func5 (by kernel_rfl)
    (of_decide_eq_true (by kernel_rfl)) (by unfold Func.isWrapper; first | (rw [if_pos (by decide +kernel)]; kernel_rfl) | (rw [if_neg (by decide +kernel)]; exact ⟨rfl, rfl⟩))
    (fun os started H enc _ => lifted os started H enc)
theorem proved : Rows.RatRoundsSaid := over
#print axioms proved
end Go.Proofs.Ytjgpegpjmkgkkaa.ratRounds
namespace Go.Proofs.Ytjgpegpjmkgkkaa
/-- The row, under a short name, for the claim. -/
theorem ratRounds_holds : Rows.RatRoundsSaid := ratRounds.proved
end Go.Proofs.Ytjgpegpjmkgkkaa
