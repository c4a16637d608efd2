/- Plain reckoning: decimal texts read by the reference. -/
import Derived.Test.YtghdpmejgonjmaaPlP2
set_option linter.unusedVariables false
set_option linter.unusedSimpArgs false
set_option maxRecDepth 10000
namespace Go.Proofs.Ytghdpmejgonjmaa.Am
open Go

theorem small_loop (k : Nat) (x0 a0 : Bool) : ∀ (d n : Nat) (u : Int) (l : List Int), 0 ≤ u ∧ u < U ^ d → u < 9223372036854775808 → d < n → l.length ≤ 1000 - d → d ≤ 100 → Dg U l → (u = 0 → Cn U l) →
    ∃ l', Lshuntref01_Small_0 k n u x0 0 a0 l.length [] l = some (x0, 0, a0, l'.length, [], l') ∧ Cn U l' ∧ V U l' = V U l + U ^ l.length * u ∧ l'.length ≤ l.length + d := by
  intro d
  induction d with
  | zero =>
    intro n u l hu hub hn hl hd9 hd hc
    obtain ⟨n, rfl⟩ : ∃ m, n = m + 1 := ⟨n - 1, by omega⟩
    have hu0 : u = 0 := by simp at hu; omega
    subst hu0
    refine ⟨l, ?_, hc rfl, by simp, by omega⟩
    show Lshuntref01_Small_0s k (Lshuntref01_Small_0 k n) _ _ _ _ _ _ _ = _
    unfold Lshuntref01_Small_0s
    simp (config := { implicitDefEqProofs := false, maxSteps := 2000000 }) (disch := omega) only [ps, ↓reduceIte, reduceCtorEq, Int.reduceLT, Int.reduceLE, Int.reduceEq, Nat.reduceLT, Nat.reduceLeDiff, Nat.reduceEqDiff, Int.reduceNeg, eitherK]
  | succ d ih =>
    intro n u l hu hub hn hl hd9 hd hc
    obtain ⟨n, rfl⟩ : ∃ m, n = m + 1 := ⟨n - 1, by omega⟩
    by_cases hu0 : u = 0
    · subst hu0
      refine ⟨l, ?_, hc rfl, by simp, by omega⟩
      show Lshuntref01_Small_0s k (Lshuntref01_Small_0 k n) _ _ _ _ _ _ _ = _
      unfold Lshuntref01_Small_0s
      simp (config := { implicitDefEqProofs := false, maxSteps := 2000000 }) (disch := omega) only [ps, ↓reduceIte, reduceCtorEq, Int.reduceLT, Int.reduceLE, Int.reduceEq, Nat.reduceLT, Nat.reduceLeDiff, Nat.reduceEqDiff, Int.reduceNeg, eitherK]
    · have hu2 : u / 65536 < U ^ d := by
        have := hu.2
        rw [Int.pow_succ] at this
        unfold U at this ⊢
        omega
      have hdm := Int.emod_add_mul_ediv u 65536
      have hlen : (l ++ [u % 65536]).length = l.length + 1 := by simp
      have hdl : Dg U (l ++ [u % 65536]) := hd.snoc (by unfold U; omega)
      obtain ⟨l', q1, q2, q3, q4⟩ := ih n (u / 65536) (l ++ [u % 65536]) ⟨by omega, hu2⟩ (by omega) (by omega) (by rw [hlen]; omega) (by omega) hdl (fun h => ⟨hdl, (Cn.last hdl).2 (.inr ⟨l, u % 65536, rfl, by omega⟩)⟩)
      refine ⟨l', ?_, q2, ?_, by rw [hlen] at q4; omega⟩
      · rw [hlen] at q1
        rw [← q1]
        show Lshuntref01_Small_0s k (Lshuntref01_Small_0 k n) _ _ _ _ _ _ _ = _
        unfold Lshuntref01_Small_0s
        have ht : l.take l.length = l := List.take_length
        simp (config := { implicitDefEqProofs := false, maxSteps := 2000000 }) (disch := omega) only [ps, ↓reduceIte, reduceCtorEq, Int.reduceLT, Int.reduceLE, Int.reduceEq, Nat.reduceLT, Nat.reduceLeDiff, Nat.reduceEqDiff, Int.reduceNeg, eitherK, tdiv_pos, tmod_pos, ht, List.take_succ_cons, List.length_cons]
      · rw [q3, V_snoc, hlen, Int.pow_succ]
        unfold U
        grind
theorem Small_ev (v : Int) (hv : -9223372036854775808 < v ∧ v ≤ 9223372036854775807) : ∃ l, Rn (fun k => Fshuntref01_Small k v) (decide (v < 0), l) ∧ Nm U (decide (v < 0)) l v ∧ l.length ≤ 4 := by
  have main : ∀ (x0 : Bool) (u : Int), 0 ≤ u ∧ u < 9223372036854775808 → ∃ l, Cn U l ∧ V U l = u ∧ l.length ≤ 4 ∧ ∀ k, 5 ≤ k → Lshuntref01_Small_0 k k u false 0 x0 0 [] [] = some (false, 0, x0, l.length, [], l) := by
    intro x0 u hu
    have h4 : u < U ^ 4 := by rw [show U ^ 4 = 18446744073709551616 from by decide]; omega
    obtain ⟨l, q1, q2, q3, q4⟩ := small_loop 5 false x0 4 5 u [] ⟨hu.1, h4⟩ hu.2 (by omega) (by simp) (by omega) Dg.nil (fun _ => Cn.nil)
    refine ⟨l, q2, by rw [q3]; simp [V], by simpa using q4, fun k hk => ?_⟩
    obtain ⟨l', r1, r2, r3, r4⟩ := small_loop k false x0 4 k u [] ⟨hu.1, h4⟩ hu.2 (by omega) (by simp) (by omega) Dg.nil (fun _ => Cn.nil)
    have : l' = l := Cn.ext (by decide) r2 q2 (by rw [r3, q3])
    subst this
    exact r1
  by_cases h : v < 0
  · obtain ⟨l, h1, h2, h3, h4⟩ := main true (-v) (by omega)
    refine ⟨l, ?_, Nm.of (by decide) h1 (by omega), h3⟩
    refine Rn.up (f := fun k => Fshuntref01_Small k v) (Rn.eq 5 fun k hk => ?_)
    show bshuntref01_Small k v = _
    unfold bshuntref01_Small
    have e1 : IntKind.i64.wrap (0 - v) = -v := by rw [wrap_i64 (by omega)]; omega
    have hh := h4 k hk
    rw [if_pos (by simpa using h), e1]
    simp (config := { implicitDefEqProofs := false, maxSteps := 2000000 }) (disch := omega) only [ps, ↓reduceIte, reduceCtorEq, Int.reduceLT, Int.reduceLE, Int.reduceEq, Nat.reduceLT, Nat.reduceLeDiff, Nat.reduceEqDiff, Int.reduceNeg, eitherK, hh, List.take_length, h, decide_true, decide_false]
  · obtain ⟨l, h1, h2, h3, h4⟩ := main false v (by omega)
    refine ⟨l, ?_, Nm.of (by decide) h1 (by omega), h3⟩
    refine Rn.up (f := fun k => Fshuntref01_Small k v) (Rn.eq 5 fun k hk => ?_)
    show bshuntref01_Small k v = _
    unfold bshuntref01_Small
    have hh := h4 k hk
    rw [if_neg (by simpa using h)]
    simp (config := { implicitDefEqProofs := false, maxSteps := 2000000 }) (disch := omega) only [ps, ↓reduceIte, reduceCtorEq, Int.reduceLT, Int.reduceLE, Int.reduceEq, Nat.reduceLT, Nat.reduceLeDiff, Nat.reduceEqDiff, Int.reduceNeg, eitherK, hh, List.take_length, h, decide_true, decide_false]
theorem num_loop (s : ByteArray) (hs : s.size ≤ 1024) (neg : Bool) : ∀ (d i : Nat) (n0 : Bool) (l : List Int) (z : Int), i + d = s.size → Nm U n0 l z → 0 ≤ z → l.length ≤ 4 * i + 4 →
    ∃ n1 l1, Rl (fun k n => Lshuntref01_Number_0 k n (Sum.inr (s, neg, (i : Int), false, 0, n0, l, false, [10], []))) (if Dc ((byt s).drop i) then Sum.inr (Sum.inr (Sum.inr (neg, false, 0, n1, l1, false, [10], []))) else Sum.inr (Sum.inr (Sum.inl (false, false, n1, l1, false, [10], [])))) ∧
      (Dc ((byt s).drop i) → Nm U n1 l1 (hn z ((byt s).drop i)) ∧ l1.length ≤ 4 * s.size + 4) := by
  intro d
  induction d with
  | zero =>
    intro i n0 l z hi hn0 hz hl
    rw [List.drop_of_length_le (by rw [byt_len]; omega)]
    refine ⟨n0, l, ?_, fun _ => ⟨hn0, by omega⟩⟩
    rw [if_pos (show Dc [] from fun x h => by cases h)]
    refine Rl.up (f := fun k n => Lshuntref01_Number_0 k n _) (Rl.of 0 fun k n _ => ?_)
    show Lshuntref01_Number_0s k (Lshuntref01_Number_0 k n) _ = _
    unfold Lshuntref01_Number_0s
    simp (config := { implicitDefEqProofs := false, maxSteps := 2000000 }) (disch := omega) only [ps, ↓reduceIte, reduceCtorEq, Int.reduceLT, Int.reduceLE, Int.reduceEq, Nat.reduceLT, Nat.reduceLeDiff, Nat.reduceEqDiff, Int.reduceNeg, eitherK]
  | succ d ih =>
    intro i n0 l z hi hn0 hz hl
    obtain ⟨x, hx⟩ := get_of (show i < (byt s).length by rw [byt_len]; omega)
    obtain ⟨b, hb, hbx⟩ := byt_get hx
    have hlt : (i : Int) < (s.size : Int) := by omega
    rw [byt_cons hx]
    by_cases hxb : 48 ≤ x ∧ x ≤ 57
    · have n10 : Nm U false [10] 10 := ⟨⟨Dg.cons (by decide) Dg.nil, by decide⟩, fun h => (by cases h), by decide⟩
      obtain ⟨s1, l1, p1, p2, p3⟩ := Times_ev n0 false l [10] hn0 n10 (by omega) (by simp)
      obtain ⟨l2, q1, q2, q3⟩ := Small_ev (x - 48) (by omega)
      have hdf : decide (x - 48 < 0) = false := by rw [decide_eq_false_iff_not]; omega
      rw [hdf] at q1 q2
      have hlen10 : ([10] : List Int).length = 1 := rfl
      rw [hlen10] at p3
      obtain ⟨s3, l3, r1, r2, r3⟩ := Plus_ev s1 _ l1 l2 p2 q2 (by omega) (by omega)
      obtain ⟨n1, l4, t1, t2⟩ := ih (i + 1) s3 l3 (z * 10 + (x - 48)) (by omega) r2 (by omega) (by omega)
      have hiff : Dc (x :: (byt s).drop (i + 1)) ↔ Dc ((byt s).drop (i + 1)) :=
        ⟨fun h y hy => h y (List.mem_cons_of_mem _ hy), fun h y hy => by
          rcases List.mem_cons.1 hy with rfl | hy
          · exact hxb
          · exact h y hy⟩
      refine ⟨n1, l4, ?_, fun h => t2 (hiff.1 h)⟩
      have e1 : IntKind.i64.wrap (IntKind.u8.wrap (((UInt8.toNat b : Nat) : Int) - 48)) = x - 48 := by
        rw [hbx, wrap_u8_id (by omega), wrap_i64 (by omega)]
      have heq : ∀ {R : Type} (A B : R), (if Dc (x :: (byt s).drop (i + 1)) then A else B) = if Dc ((byt s).drop (i + 1)) then A else B := fun A B => by
        by_cases h : Dc ((byt s).drop (i + 1))
        · rw [if_pos h, if_pos (hiff.2 h)]
        · rw [if_neg h, if_neg (mt hiff.1 h)]
      rw [heq]
      have h1 : ((i : Int) + 1) = ((i + 1 : Nat) : Int) := rfl
      obtain ⟨K1, p1⟩ := p1
      obtain ⟨K2, q1⟩ := q1
      obtain ⟨K3, r1⟩ := r1
      obtain ⟨K4, t1⟩ := t1
      refine ⟨max (max K1 K2) (max K3 K4) + 1, fun k n hk hn => ?_⟩
      obtain ⟨n, rfl⟩ : ∃ m, n = m + 1 := ⟨n - 1, by omega⟩
      have p1' := p1 k (by omega)
      have q1' := q1 k (by omega)
      have r1' := r1 k (by omega)
      have t1' := t1 k n (by omega) (by omega)
      rw [← t1']
      show Lshuntref01_Number_0s k (Lshuntref01_Number_0 k n) _ = _
      unfold Lshuntref01_Number_0s
      simp only [] at p1' q1' r1'
      rw [← hbx] at hxb q1'
      simp (config := { implicitDefEqProofs := false, maxSteps := 2000000 }) (disch := omega) only [ps, ↓reduceIte, reduceCtorEq, Int.reduceLT, Int.reduceLE, Int.reduceEq, Nat.reduceLT, Nat.reduceLeDiff, Nat.reduceEqDiff, Int.reduceNeg, eitherK, p1', hb, e1, q1', r1', h1]
    · refine ⟨n0, l, ?_, fun h => absurd (h x (List.mem_cons_self ..)) hxb⟩
      rw [if_neg (show ¬ Dc (x :: (byt s).drop (i + 1)) from fun h => hxb (h x (List.mem_cons_self ..)))]
      refine Rl.up (f := fun k n => Lshuntref01_Number_0 k n _) (Rl.of 0 fun k n _ => ?_)
      show Lshuntref01_Number_0s k (Lshuntref01_Number_0 k n) _ = _
      unfold Lshuntref01_Number_0s
      rw [← hbx] at hxb
      by_cases hlo : ((UInt8.toNat b : Nat) : Int) < 48
      · simp (config := { implicitDefEqProofs := false, maxSteps := 2000000 }) (disch := omega) only [ps, ↓reduceIte, reduceCtorEq, Int.reduceLT, Int.reduceLE, Int.reduceEq, Nat.reduceLT, Nat.reduceLeDiff, Nat.reduceEqDiff, Int.reduceNeg, eitherK, hb]
      · simp (config := { implicitDefEqProofs := false, maxSteps := 2000000 }) (disch := omega) only [ps, ↓reduceIte, reduceCtorEq, Int.reduceLT, Int.reduceLE, Int.reduceEq, Nat.reduceLT, Nat.reduceLeDiff, Nat.reduceEqDiff, Int.reduceNeg, eitherK, hb]
/-- The end of Number: the signs are read. -/
def ntail (k : Nat) (s : ByteArray) (neg : Bool) (i : Int) : Option (Bool × List Int × Bool) :=
    Option.bind (Fshuntref01_Small k (10 : Int)) fun r2 =>
    Option.bind (Lshuntref01_Number_0 k k (Sum.inl (s, neg, i, false, 0, false, 0, r2.1, r2.2, [], []))) fun r3 =>
    eitherK r3
      (fun r3 =>
      (some (r3.2.1, [], r3.1)))
      (fun r3 =>
      eitherK r3
        (fun r3 =>
        if (r3.1 = true) then
          if ((0 + r3.2.2.2.2.1) ≤ (List.length r3.2.2.2.2.2.2.2.2)) then
            Option.bind (Fshuntref01_Minus k r3.2.2.2.1 (List.take r3.2.2.2.2.1 r3.2.2.2.2.2.2.2.2)) fun r4 =>
            (some (r4.1, r4.2, true))
          else
          none
        else
        if ((0 + r3.2.2.2.2.1) ≤ (List.length r3.2.2.2.2.2.2.2.2)) then
          (some (r3.2.2.2.1, (List.take r3.2.2.2.2.1 r3.2.2.2.2.2.2.2.2), true))
        else
        none)
        (fun r3 =>
        eitherK r3
          (fun r3 =>
          (some (r3.2.1, [], r3.1)))
          (fun r3 =>
          if (r3.1 = true) then
            Option.bind (Fshuntref01_Minus k r3.2.2.2.1 r3.2.2.2.2.1) fun r4 =>
            (some (r4.1, r4.2, true))
          else
          (some (r3.2.2.2.1, r3.2.2.2.2.1, true)))))

theorem ntail_ev (s : ByteArray) (hs : s.size ≤ 1024) (neg : Bool) (i : Nat) (hi : i < s.size) :
    (¬ Dc ((byt s).drop i) → Rn (fun k => ntail k s neg i) (false, [], false)) ∧
    (Dc ((byt s).drop i) → ∃ a0 a1, Rn (fun k => ntail k s neg i) (a0, a1, true) ∧ Nm U a0 a1 (if neg then -(hn 0 ((byt s).drop i)) else hn 0 ((byt s).drop i)) ∧ a1.length ≤ 4100) := by
  obtain ⟨l, a1, a2, a3⟩ := Small_ev 10 (by decide)
  have n10 : Nm U false [10] 10 := ⟨⟨Dg.cons (by decide) Dg.nil, by decide⟩, fun h => (by cases h), by decide⟩
  obtain ⟨_, rfl⟩ := Nm.ext (by decide) a2 n10
  rw [show decide ((10 : Int) < 0) = false from rfl] at a1
  obtain ⟨x, hx⟩ := get_of (show i < (byt s).length by rw [byt_len]; omega)
  obtain ⟨b, hb, hbx⟩ := byt_get hx
  have hlt : (i : Int) < (s.size : Int) := by omega
  rw [byt_cons hx]
  by_cases hxb : 48 ≤ x ∧ x ≤ 57
  · have nz : Nm U false [] 0 := ⟨Cn.nil, fun h => (by cases h), by simp [V]⟩
    obtain ⟨s1, l1, p1, p2, p3⟩ := Times_ev false false [] [10] nz n10 (by simp) (by simp)
    obtain ⟨l2, q1, q2, q3⟩ := Small_ev (x - 48) (by omega)
    have hdf : decide (x - 48 < 0) = false := by rw [decide_eq_false_iff_not]; omega
    rw [hdf] at q1 q2
    have hlen10 : ([] : List Int).length + ([10] : List Int).length = 1 := rfl
    rw [hlen10] at p3
    obtain ⟨s3, l3, r1, r2, r3⟩ := Plus_ev s1 _ l1 l2 p2 q2 (by omega) (by omega)
    obtain ⟨n1, l4, t1, t2⟩ := num_loop s hs neg (s.size - (i + 1)) (i + 1) s3 l3 (0 * 10 + (x - 48)) (by omega) r2 (by omega) (by omega)
    have hiff : Dc (x :: (byt s).drop (i + 1)) ↔ Dc ((byt s).drop (i + 1)) :=
      ⟨fun h y hy => h y (List.mem_cons_of_mem _ hy), fun h y hy => by
        rcases List.mem_cons.1 hy with rfl | hy
        · exact hxb
        · exact h y hy⟩
    have loop : Rn (fun k => Lshuntref01_Number_0 k k (Sum.inl (s, neg, (i : Int), false, 0, false, 0, false, [10], [], []))) (if Dc ((byt s).drop (i + 1)) then Sum.inr (Sum.inr (Sum.inr (neg, false, 0, n1, l4, false, [10], []))) else Sum.inr (Sum.inr (Sum.inl (false, false, n1, l4, false, [10], [])))) := by
      refine Rl.diag (f := fun k n => Lshuntref01_Number_0 k n _) ?_
      have e1 : IntKind.i64.wrap (IntKind.u8.wrap (((UInt8.toNat b : Nat) : Int) - 48)) = x - 48 := by
        rw [hbx, wrap_u8_id (by omega), wrap_i64 (by omega)]
      have h1 : ((i : Int) + 1) = ((i + 1 : Nat) : Int) := rfl
      obtain ⟨K1, p1⟩ := p1
      obtain ⟨K2, q1⟩ := q1
      obtain ⟨K3, r1⟩ := r1
      obtain ⟨K4, t1⟩ := t1
      refine ⟨max (max K1 K2) (max K3 K4) + 1, fun k n hk hn => ?_⟩
      obtain ⟨n, rfl⟩ : ∃ m, n = m + 1 := ⟨n - 1, by omega⟩
      have p1' := p1 k (by omega)
      have q1' := q1 k (by omega)
      have r1' := r1 k (by omega)
      have t1' := t1 k n (by omega) (by omega)
      rw [← t1']
      show Lshuntref01_Number_0s k (Lshuntref01_Number_0 k n) _ = _
      unfold Lshuntref01_Number_0s
      simp only [] at p1' q1' r1'
      rw [← hbx] at hxb q1'
      simp (config := { implicitDefEqProofs := false, maxSteps := 2000000 }) (disch := omega) only [ps, ↓reduceIte, reduceCtorEq, Int.reduceLT, Int.reduceLE, Int.reduceEq, Nat.reduceLT, Nat.reduceLeDiff, Nat.reduceEqDiff, Int.reduceNeg, eitherK, p1', hb, e1, q1', r1', h1, List.take_nil]
    unfold ntail
    refine ⟨fun h => ?_, fun h => ?_⟩
    · rw [if_neg (mt hiff.2 h)] at loop
      exact Rn.bind a1 (Rn.bind loop (Rn.pure _))
    · rw [if_pos (hiff.1 h)] at loop
      obtain ⟨t2, t3⟩ := t2 (hiff.1 h)
      obtain ⟨s5, l5, u1, u2, u3⟩ := Minus_ev n1 l4 t2
      cases neg
      · refine ⟨n1, l4, ?_, t2, by omega⟩
        refine Rn.bind a1 (Rn.bind loop ?_)
        show Rn (fun k => if false = true then (Option.bind (Fshuntref01_Minus k n1 l4) fun r4 => some (r4.1, r4.2, true)) else some (n1, l4, true)) _
        exact Rn.f (by decide) (Rn.pure _)
      · refine ⟨s5, l5, ?_, u2, by omega⟩
        refine Rn.bind a1 (Rn.bind loop ?_)
        show Rn (fun k => if true = true then (Option.bind (Fshuntref01_Minus k n1 l4) fun r4 => some (r4.1, r4.2, true)) else some (n1, l4, true)) _
        exact Rn.t rfl (Rn.bind u1 (Rn.pure _))
  · refine ⟨fun _ => ?_, fun h => absurd (h x (List.mem_cons_self ..)) hxb⟩
    have loop : Rn (fun k => Lshuntref01_Number_0 k k (Sum.inl (s, neg, (i : Int), false, 0, false, 0, false, [10], [], []))) (Sum.inl (false, false, false, 0, false, [10], [], [])) := by
      refine Rl.diag (f := fun k n => Lshuntref01_Number_0 k n _) ?_
      refine Rl.up (f := fun k n => Lshuntref01_Number_0 k n _) (Rl.of 0 fun k n _ => ?_)
      show Lshuntref01_Number_0s k (Lshuntref01_Number_0 k n) _ = _
      unfold Lshuntref01_Number_0s
      rw [← hbx] at hxb
      by_cases hlo : ((UInt8.toNat b : Nat) : Int) < 48
      · simp (config := { implicitDefEqProofs := false, maxSteps := 2000000 }) (disch := omega) only [ps, ↓reduceIte, reduceCtorEq, Int.reduceLT, Int.reduceLE, Int.reduceEq, Nat.reduceLT, Nat.reduceLeDiff, Nat.reduceEqDiff, Int.reduceNeg, eitherK, hb]
      · simp (config := { implicitDefEqProofs := false, maxSteps := 2000000 }) (disch := omega) only [ps, ↓reduceIte, reduceCtorEq, Int.reduceLT, Int.reduceLE, Int.reduceEq, Nat.reduceLT, Nat.reduceLeDiff, Nat.reduceEqDiff, Int.reduceNeg, eitherK, hb]
    unfold ntail
    exact Rn.bind a1 (Rn.bind loop (Rn.pure _))
theorem Number_ev (s : ByteArray) (hs : s.size ≤ 1024) :
    (¬ Pgd (byt s) → Rn (fun k => Fshuntref01_Number k s) (false, [], false)) ∧
    (Pgd (byt s) → ∃ a0 a1, Rn (fun k => Fshuntref01_Number k s) (a0, a1, true) ∧ Nm U a0 a1 (Pz (byt s)) ∧ a1.length ≤ 4100) := by
  have hlen := byt_len s
  have up : ∀ r, Rn (fun k => bshuntref01_Number k s) r → Rn (fun k => Fshuntref01_Number k s) r := fun r h => Rn.up (f := fun k => Fshuntref01_Number k s) h
  suffices h : (¬ Pgd (byt s) → Rn (fun k => bshuntref01_Number k s) (false, [], false)) ∧ (Pgd (byt s) → ∃ a0 a1, Rn (fun k => bshuntref01_Number k s) (a0, a1, true) ∧ Nm U a0 a1 (Pz (byt s)) ∧ a1.length ≤ 4100) by
    refine ⟨fun h1 => up _ (h.1 h1), fun h1 => ?_⟩
    obtain ⟨a0, a1, q1, q2⟩ := h.2 h1
    exact ⟨a0, a1, up _ q1, q2⟩
  by_cases h0 : s.size = 0
  · have hb : byt s = [] := List.length_eq_zero_iff.1 (by omega)
    refine ⟨fun _ => ?_, fun h => absurd (by rw [hb]; rfl) h.1⟩
    unfold bshuntref01_Number
    (first | (refine Rn.t ?hc ?_; case hc => simp (config := { implicitDefEqProofs := false, maxSteps := 2000000 }) (disch := omega) only [ps, ↓reduceIte, reduceCtorEq, Int.reduceLT, Int.reduceLE, Int.reduceEq, Nat.reduceLT, Nat.reduceLeDiff, Nat.reduceEqDiff, Int.reduceNeg, eitherK]) | (refine Rn.f ?hc ?_; case hc => simp (config := { implicitDefEqProofs := false, maxSteps := 2000000 }) (disch := omega) only [ps, ↓reduceIte, reduceCtorEq, Int.reduceLT, Int.reduceLE, Int.reduceEq, Nat.reduceLT, Nat.reduceLeDiff, Nat.reduceEqDiff, Int.reduceNeg, eitherK]))
    (first | (refine Rn.t ?hc ?_; case hc => simp (config := { implicitDefEqProofs := false, maxSteps := 2000000 }) (disch := omega) only [ps, ↓reduceIte, reduceCtorEq, Int.reduceLT, Int.reduceLE, Int.reduceEq, Nat.reduceLT, Nat.reduceLeDiff, Nat.reduceEqDiff, Int.reduceNeg, eitherK]) | (refine Rn.f ?hc ?_; case hc => simp (config := { implicitDefEqProofs := false, maxSteps := 2000000 }) (disch := omega) only [ps, ↓reduceIte, reduceCtorEq, Int.reduceLT, Int.reduceLE, Int.reduceEq, Nat.reduceLT, Nat.reduceLeDiff, Nat.reduceEqDiff, Int.reduceNeg, eitherK]))
    exact Rn.pure _
  obtain ⟨x, hx⟩ := get_of (show 0 < (byt s).length by omega)
  obtain ⟨b, hb, hbx⟩ := byt_get hx
  by_cases h45 : x = 45
  · subst h45
    have hpd : Pd (byt s) = (byt s).drop 1 := if_pos hx
    have hpz : Pz (byt s) = -(hn 0 (Pd (byt s))) := if_pos hx
    have hne : byt s ≠ [48] := fun h => by rw [h] at hx; cases hx
    have hbq : (((UInt8.toNat b : Nat) : Int) == 45) = true := by rw [hbx]; rfl
    by_cases hd0 : s.size = 1
    · refine ⟨fun _ => ?_, fun h => absurd (by rw [hpd]; exact List.drop_of_length_le (by omega)) h.1⟩
      unfold bshuntref01_Number
      (first | (refine Rn.t ?hc ?_; case hc => simp (config := { implicitDefEqProofs := false, maxSteps := 2000000 }) (disch := omega) only [ps, ↓reduceIte, reduceCtorEq, Int.reduceLT, Int.reduceLE, Int.reduceEq, Nat.reduceLT, Nat.reduceLeDiff, Nat.reduceEqDiff, Int.reduceNeg, eitherK]) | (refine Rn.f ?hc ?_; case hc => simp (config := { implicitDefEqProofs := false, maxSteps := 2000000 }) (disch := omega) only [ps, ↓reduceIte, reduceCtorEq, Int.reduceLT, Int.reduceLE, Int.reduceEq, Nat.reduceLT, Nat.reduceLeDiff, Nat.reduceEqDiff, Int.reduceNeg, eitherK]))
      refine Rn.at hb ?_
      (first | (refine Rn.t ?hc ?_; case hc => simp (config := { implicitDefEqProofs := false, maxSteps := 2000000 }) (disch := omega) only [ps, ↓reduceIte, reduceCtorEq, Int.reduceLT, Int.reduceLE, Int.reduceEq, Nat.reduceLT, Nat.reduceLeDiff, Nat.reduceEqDiff, Int.reduceNeg, eitherK, hbx]) | (refine Rn.f ?hc ?_; case hc => simp (config := { implicitDefEqProofs := false, maxSteps := 2000000 }) (disch := omega) only [ps, ↓reduceIte, reduceCtorEq, Int.reduceLT, Int.reduceLE, Int.reduceEq, Nat.reduceLT, Nat.reduceLeDiff, Nat.reduceEqDiff, Int.reduceNeg, eitherK, hbx]))
      (first | (refine Rn.t ?hc ?_; case hc => simp (config := { implicitDefEqProofs := false, maxSteps := 2000000 }) (disch := omega) only [ps, ↓reduceIte, reduceCtorEq, Int.reduceLT, Int.reduceLE, Int.reduceEq, Nat.reduceLT, Nat.reduceLeDiff, Nat.reduceEqDiff, Int.reduceNeg, eitherK]) | (refine Rn.f ?hc ?_; case hc => simp (config := { implicitDefEqProofs := false, maxSteps := 2000000 }) (disch := omega) only [ps, ↓reduceIte, reduceCtorEq, Int.reduceLT, Int.reduceLE, Int.reduceEq, Nat.reduceLT, Nat.reduceLeDiff, Nat.reduceEqDiff, Int.reduceNeg, eitherK]))
      exact Rn.pure _
    · obtain ⟨y, hy⟩ := get_of (show 1 < (byt s).length by omega)
      obtain ⟨c, hc, hcy⟩ := byt_get hy
      have hdy : ((byt s).drop 1)[0]? = some y := by rw [List.getElem?_drop]; exact hy
      by_cases h48 : y = 48
      · subst h48
        refine ⟨fun _ => ?_, fun h => absurd (h.2.1 (by rw [hpd]; exact hdy)) hne⟩
        unfold bshuntref01_Number
        (first | (refine Rn.t ?hc ?_; case hc => simp (config := { implicitDefEqProofs := false, maxSteps := 2000000 }) (disch := omega) only [ps, ↓reduceIte, reduceCtorEq, Int.reduceLT, Int.reduceLE, Int.reduceEq, Nat.reduceLT, Nat.reduceLeDiff, Nat.reduceEqDiff, Int.reduceNeg, eitherK]) | (refine Rn.f ?hc ?_; case hc => simp (config := { implicitDefEqProofs := false, maxSteps := 2000000 }) (disch := omega) only [ps, ↓reduceIte, reduceCtorEq, Int.reduceLT, Int.reduceLE, Int.reduceEq, Nat.reduceLT, Nat.reduceLeDiff, Nat.reduceEqDiff, Int.reduceNeg, eitherK]))
        refine Rn.at hb ?_
        (first | (refine Rn.t ?hc ?_; case hc => simp (config := { implicitDefEqProofs := false, maxSteps := 2000000 }) (disch := omega) only [ps, ↓reduceIte, reduceCtorEq, Int.reduceLT, Int.reduceLE, Int.reduceEq, Nat.reduceLT, Nat.reduceLeDiff, Nat.reduceEqDiff, Int.reduceNeg, eitherK, hbx]) | (refine Rn.f ?hc ?_; case hc => simp (config := { implicitDefEqProofs := false, maxSteps := 2000000 }) (disch := omega) only [ps, ↓reduceIte, reduceCtorEq, Int.reduceLT, Int.reduceLE, Int.reduceEq, Nat.reduceLT, Nat.reduceLeDiff, Nat.reduceEqDiff, Int.reduceNeg, eitherK, hbx]))
        (first | (refine Rn.t ?hc ?_; case hc => simp (config := { implicitDefEqProofs := false, maxSteps := 2000000 }) (disch := omega) only [ps, ↓reduceIte, reduceCtorEq, Int.reduceLT, Int.reduceLE, Int.reduceEq, Nat.reduceLT, Nat.reduceLeDiff, Nat.reduceEqDiff, Int.reduceNeg, eitherK]) | (refine Rn.f ?hc ?_; case hc => simp (config := { implicitDefEqProofs := false, maxSteps := 2000000 }) (disch := omega) only [ps, ↓reduceIte, reduceCtorEq, Int.reduceLT, Int.reduceLE, Int.reduceEq, Nat.reduceLT, Nat.reduceLeDiff, Nat.reduceEqDiff, Int.reduceNeg, eitherK]))
        refine Rn.at hc ?_
        (first | (refine Rn.t ?hc ?_; case hc => simp (config := { implicitDefEqProofs := false, maxSteps := 2000000 }) (disch := omega) only [ps, ↓reduceIte, reduceCtorEq, Int.reduceLT, Int.reduceLE, Int.reduceEq, Nat.reduceLT, Nat.reduceLeDiff, Nat.reduceEqDiff, Int.reduceNeg, eitherK, hcy]) | (refine Rn.f ?hc ?_; case hc => simp (config := { implicitDefEqProofs := false, maxSteps := 2000000 }) (disch := omega) only [ps, ↓reduceIte, reduceCtorEq, Int.reduceLT, Int.reduceLE, Int.reduceEq, Nat.reduceLT, Nat.reduceLeDiff, Nat.reduceEqDiff, Int.reduceNeg, eitherK, hcy]))
        (first | (refine Rn.t ?hc ?_; case hc => simp (config := { implicitDefEqProofs := false, maxSteps := 2000000 }) (disch := omega) only [ps, ↓reduceIte, reduceCtorEq, Int.reduceLT, Int.reduceLE, Int.reduceEq, Nat.reduceLT, Nat.reduceLeDiff, Nat.reduceEqDiff, Int.reduceNeg, eitherK, hbx]) | (refine Rn.f ?hc ?_; case hc => simp (config := { implicitDefEqProofs := false, maxSteps := 2000000 }) (disch := omega) only [ps, ↓reduceIte, reduceCtorEq, Int.reduceLT, Int.reduceLE, Int.reduceEq, Nat.reduceLT, Nat.reduceLeDiff, Nat.reduceEqDiff, Int.reduceNeg, eitherK, hbx]))
        exact Rn.pure _
      · have head : ∀ r, Rn (fun k => ntail k s true (1 : Nat)) r → Rn (fun k => bshuntref01_Number k s) r := by
          intro r h
          unfold bshuntref01_Number
          (first | (refine Rn.t ?hc ?_; case hc => simp (config := { implicitDefEqProofs := false, maxSteps := 2000000 }) (disch := omega) only [ps, ↓reduceIte, reduceCtorEq, Int.reduceLT, Int.reduceLE, Int.reduceEq, Nat.reduceLT, Nat.reduceLeDiff, Nat.reduceEqDiff, Int.reduceNeg, eitherK]) | (refine Rn.f ?hc ?_; case hc => simp (config := { implicitDefEqProofs := false, maxSteps := 2000000 }) (disch := omega) only [ps, ↓reduceIte, reduceCtorEq, Int.reduceLT, Int.reduceLE, Int.reduceEq, Nat.reduceLT, Nat.reduceLeDiff, Nat.reduceEqDiff, Int.reduceNeg, eitherK]))
          refine Rn.at hb ?_
          (first | (refine Rn.t ?hc ?_; case hc => simp (config := { implicitDefEqProofs := false, maxSteps := 2000000 }) (disch := omega) only [ps, ↓reduceIte, reduceCtorEq, Int.reduceLT, Int.reduceLE, Int.reduceEq, Nat.reduceLT, Nat.reduceLeDiff, Nat.reduceEqDiff, Int.reduceNeg, eitherK, hbx]) | (refine Rn.f ?hc ?_; case hc => simp (config := { implicitDefEqProofs := false, maxSteps := 2000000 }) (disch := omega) only [ps, ↓reduceIte, reduceCtorEq, Int.reduceLT, Int.reduceLE, Int.reduceEq, Nat.reduceLT, Nat.reduceLeDiff, Nat.reduceEqDiff, Int.reduceNeg, eitherK, hbx]))
          (first | (refine Rn.t ?hc ?_; case hc => simp (config := { implicitDefEqProofs := false, maxSteps := 2000000 }) (disch := omega) only [ps, ↓reduceIte, reduceCtorEq, Int.reduceLT, Int.reduceLE, Int.reduceEq, Nat.reduceLT, Nat.reduceLeDiff, Nat.reduceEqDiff, Int.reduceNeg, eitherK]) | (refine Rn.f ?hc ?_; case hc => simp (config := { implicitDefEqProofs := false, maxSteps := 2000000 }) (disch := omega) only [ps, ↓reduceIte, reduceCtorEq, Int.reduceLT, Int.reduceLE, Int.reduceEq, Nat.reduceLT, Nat.reduceLeDiff, Nat.reduceEqDiff, Int.reduceNeg, eitherK]))
          refine Rn.at hc ?_
          (first | (refine Rn.t ?hc ?_; case hc => simp (config := { implicitDefEqProofs := false, maxSteps := 2000000 }) (disch := omega) only [ps, ↓reduceIte, reduceCtorEq, Int.reduceLT, Int.reduceLE, Int.reduceEq, Nat.reduceLT, Nat.reduceLeDiff, Nat.reduceEqDiff, Int.reduceNeg, eitherK, hcy]) | (refine Rn.f ?hc ?_; case hc => simp (config := { implicitDefEqProofs := false, maxSteps := 2000000 }) (disch := omega) only [ps, ↓reduceIte, reduceCtorEq, Int.reduceLT, Int.reduceLE, Int.reduceEq, Nat.reduceLT, Nat.reduceLeDiff, Nat.reduceEqDiff, Int.reduceNeg, eitherK, hcy]))
          rw [← hbq] at h
          exact h
        have hnt := ntail_ev s hs true 1 (by omega)
        rw [hpz, hpd]
        refine ⟨fun h => head _ (hnt.1 fun hdc => h ⟨?_, ?_, ?_⟩), fun h => ?_⟩
        · rw [hpd]; intro h; rw [h] at hdy; cases hdy
        · rw [hpd, hdy]; intro h; exact absurd (Option.some.inj h) h48
        · rw [hpd]; exact hdc
        · obtain ⟨a0, a1, q1, q2, q3⟩ := hnt.2 (by have := h.2.2; rwa [hpd] at this)
          exact ⟨a0, a1, head _ q1, q2, q3⟩
  · have hx45 : ¬ (byt s)[0]? = some 45 := by rw [hx]; intro h; exact h45 (Option.some.inj h)
    have hpd : Pd (byt s) = byt s := if_neg hx45
    have hpz : Pz (byt s) = hn 0 (Pd (byt s)) := if_neg hx45
    have hbq : (((UInt8.toNat b : Nat) : Int) == 45) = false := by rw [hbx]; exact beq_eq_false_iff_ne.2 h45
    have h48i : x = 48 → (byt s = [48] ↔ s.size = 1) := by
      intro h
      subst h
      refine ⟨fun h => by rw [h] at hlen; simpa using hlen.symm, fun h => ?_⟩
      rw [← hlen] at h
      obtain ⟨y, hy⟩ := List.length_eq_one_iff.1 h
      rw [hy] at hx ⊢
      simpa using hx
    by_cases hz : x = 48 ∧ 1 < s.size
    · refine ⟨fun _ => ?_, fun h => ?_⟩
      · unfold bshuntref01_Number
        (first | (refine Rn.t ?hc ?_; case hc => simp (config := { implicitDefEqProofs := false, maxSteps := 2000000 }) (disch := omega) only [ps, ↓reduceIte, reduceCtorEq, Int.reduceLT, Int.reduceLE, Int.reduceEq, Nat.reduceLT, Nat.reduceLeDiff, Nat.reduceEqDiff, Int.reduceNeg, eitherK]) | (refine Rn.f ?hc ?_; case hc => simp (config := { implicitDefEqProofs := false, maxSteps := 2000000 }) (disch := omega) only [ps, ↓reduceIte, reduceCtorEq, Int.reduceLT, Int.reduceLE, Int.reduceEq, Nat.reduceLT, Nat.reduceLeDiff, Nat.reduceEqDiff, Int.reduceNeg, eitherK]))
        refine Rn.at hb ?_
        (first | (refine Rn.t ?hc ?_; case hc => simp (config := { implicitDefEqProofs := false, maxSteps := 2000000 }) (disch := omega) only [ps, ↓reduceIte, reduceCtorEq, Int.reduceLT, Int.reduceLE, Int.reduceEq, Nat.reduceLT, Nat.reduceLeDiff, Nat.reduceEqDiff, Int.reduceNeg, eitherK, hbx]) | (refine Rn.f ?hc ?_; case hc => simp (config := { implicitDefEqProofs := false, maxSteps := 2000000 }) (disch := omega) only [ps, ↓reduceIte, reduceCtorEq, Int.reduceLT, Int.reduceLE, Int.reduceEq, Nat.reduceLT, Nat.reduceLeDiff, Nat.reduceEqDiff, Int.reduceNeg, eitherK, hbx]))
        (first | (refine Rn.t ?hc ?_; case hc => simp (config := { implicitDefEqProofs := false, maxSteps := 2000000 }) (disch := omega) only [ps, ↓reduceIte, reduceCtorEq, Int.reduceLT, Int.reduceLE, Int.reduceEq, Nat.reduceLT, Nat.reduceLeDiff, Nat.reduceEqDiff, Int.reduceNeg, eitherK]) | (refine Rn.f ?hc ?_; case hc => simp (config := { implicitDefEqProofs := false, maxSteps := 2000000 }) (disch := omega) only [ps, ↓reduceIte, reduceCtorEq, Int.reduceLT, Int.reduceLE, Int.reduceEq, Nat.reduceLT, Nat.reduceLeDiff, Nat.reduceEqDiff, Int.reduceNeg, eitherK]))
        refine Rn.at hb ?_
        (first | (refine Rn.t ?hc ?_; case hc => simp (config := { implicitDefEqProofs := false, maxSteps := 2000000 }) (disch := omega) only [ps, ↓reduceIte, reduceCtorEq, Int.reduceLT, Int.reduceLE, Int.reduceEq, Nat.reduceLT, Nat.reduceLeDiff, Nat.reduceEqDiff, Int.reduceNeg, eitherK, hbx]) | (refine Rn.f ?hc ?_; case hc => simp (config := { implicitDefEqProofs := false, maxSteps := 2000000 }) (disch := omega) only [ps, ↓reduceIte, reduceCtorEq, Int.reduceLT, Int.reduceLE, Int.reduceEq, Nat.reduceLT, Nat.reduceLeDiff, Nat.reduceEqDiff, Int.reduceNeg, eitherK, hbx]))
        (first | (refine Rn.t ?hc ?_; case hc => simp (config := { implicitDefEqProofs := false, maxSteps := 2000000 }) (disch := omega) only [ps, ↓reduceIte, reduceCtorEq, Int.reduceLT, Int.reduceLE, Int.reduceEq, Nat.reduceLT, Nat.reduceLeDiff, Nat.reduceEqDiff, Int.reduceNeg, eitherK, hbx]) | (refine Rn.f ?hc ?_; case hc => simp (config := { implicitDefEqProofs := false, maxSteps := 2000000 }) (disch := omega) only [ps, ↓reduceIte, reduceCtorEq, Int.reduceLT, Int.reduceLE, Int.reduceEq, Nat.reduceLT, Nat.reduceLeDiff, Nat.reduceEqDiff, Int.reduceNeg, eitherK, hbx]))
        (first | (refine Rn.t ?hc ?_; case hc => simp (config := { implicitDefEqProofs := false, maxSteps := 2000000 }) (disch := omega) only [ps, ↓reduceIte, reduceCtorEq, Int.reduceLT, Int.reduceLE, Int.reduceEq, Nat.reduceLT, Nat.reduceLeDiff, Nat.reduceEqDiff, Int.reduceNeg, eitherK]) | (refine Rn.f ?hc ?_; case hc => simp (config := { implicitDefEqProofs := false, maxSteps := 2000000 }) (disch := omega) only [ps, ↓reduceIte, reduceCtorEq, Int.reduceLT, Int.reduceLE, Int.reduceEq, Nat.reduceLT, Nat.reduceLeDiff, Nat.reduceEqDiff, Int.reduceNeg, eitherK]))
        exact Rn.pure _
      · have := (h48i hz.1).1 (h.2.1 (by rw [hpd, hx, hz.1]))
        omega
    · have head : ∀ r, Rn (fun k => ntail k s false (0 : Nat)) r → Rn (fun k => bshuntref01_Number k s) r := by
        intro r h
        unfold bshuntref01_Number
        rw [← hbq] at h
        (first | (refine Rn.t ?hc ?_; case hc => simp (config := { implicitDefEqProofs := false, maxSteps := 2000000 }) (disch := omega) only [ps, ↓reduceIte, reduceCtorEq, Int.reduceLT, Int.reduceLE, Int.reduceEq, Nat.reduceLT, Nat.reduceLeDiff, Nat.reduceEqDiff, Int.reduceNeg, eitherK]) | (refine Rn.f ?hc ?_; case hc => simp (config := { implicitDefEqProofs := false, maxSteps := 2000000 }) (disch := omega) only [ps, ↓reduceIte, reduceCtorEq, Int.reduceLT, Int.reduceLE, Int.reduceEq, Nat.reduceLT, Nat.reduceLeDiff, Nat.reduceEqDiff, Int.reduceNeg, eitherK]))
        refine Rn.at hb ?_
        (first | (refine Rn.t ?hc ?_; case hc => simp (config := { implicitDefEqProofs := false, maxSteps := 2000000 }) (disch := omega) only [ps, ↓reduceIte, reduceCtorEq, Int.reduceLT, Int.reduceLE, Int.reduceEq, Nat.reduceLT, Nat.reduceLeDiff, Nat.reduceEqDiff, Int.reduceNeg, eitherK, hbx]) | (refine Rn.f ?hc ?_; case hc => simp (config := { implicitDefEqProofs := false, maxSteps := 2000000 }) (disch := omega) only [ps, ↓reduceIte, reduceCtorEq, Int.reduceLT, Int.reduceLE, Int.reduceEq, Nat.reduceLT, Nat.reduceLeDiff, Nat.reduceEqDiff, Int.reduceNeg, eitherK, hbx]))
        (first | (refine Rn.t ?hc ?_; case hc => simp (config := { implicitDefEqProofs := false, maxSteps := 2000000 }) (disch := omega) only [ps, ↓reduceIte, reduceCtorEq, Int.reduceLT, Int.reduceLE, Int.reduceEq, Nat.reduceLT, Nat.reduceLeDiff, Nat.reduceEqDiff, Int.reduceNeg, eitherK]) | (refine Rn.f ?hc ?_; case hc => simp (config := { implicitDefEqProofs := false, maxSteps := 2000000 }) (disch := omega) only [ps, ↓reduceIte, reduceCtorEq, Int.reduceLT, Int.reduceLE, Int.reduceEq, Nat.reduceLT, Nat.reduceLeDiff, Nat.reduceEqDiff, Int.reduceNeg, eitherK]))
        refine Rn.at hb ?_
        by_cases h48 : x = 48
        · (first | (refine Rn.t ?hc ?_; case hc => simp (config := { implicitDefEqProofs := false, maxSteps := 2000000 }) (disch := omega) only [ps, ↓reduceIte, reduceCtorEq, Int.reduceLT, Int.reduceLE, Int.reduceEq, Nat.reduceLT, Nat.reduceLeDiff, Nat.reduceEqDiff, Int.reduceNeg, eitherK, hbx]) | (refine Rn.f ?hc ?_; case hc => simp (config := { implicitDefEqProofs := false, maxSteps := 2000000 }) (disch := omega) only [ps, ↓reduceIte, reduceCtorEq, Int.reduceLT, Int.reduceLE, Int.reduceEq, Nat.reduceLT, Nat.reduceLeDiff, Nat.reduceEqDiff, Int.reduceNeg, eitherK, hbx]))
          (first | (refine Rn.t ?hc ?_; case hc => simp (config := { implicitDefEqProofs := false, maxSteps := 2000000 }) (disch := omega) only [ps, ↓reduceIte, reduceCtorEq, Int.reduceLT, Int.reduceLE, Int.reduceEq, Nat.reduceLT, Nat.reduceLeDiff, Nat.reduceEqDiff, Int.reduceNeg, eitherK, hbx]) | (refine Rn.f ?hc ?_; case hc => simp (config := { implicitDefEqProofs := false, maxSteps := 2000000 }) (disch := omega) only [ps, ↓reduceIte, reduceCtorEq, Int.reduceLT, Int.reduceLE, Int.reduceEq, Nat.reduceLT, Nat.reduceLeDiff, Nat.reduceEqDiff, Int.reduceNeg, eitherK, hbx]))
          (first | (refine Rn.t ?hc ?_; case hc => simp (config := { implicitDefEqProofs := false, maxSteps := 2000000 }) (disch := omega) only [ps, ↓reduceIte, reduceCtorEq, Int.reduceLT, Int.reduceLE, Int.reduceEq, Nat.reduceLT, Nat.reduceLeDiff, Nat.reduceEqDiff, Int.reduceNeg, eitherK]) | (refine Rn.f ?hc ?_; case hc => simp (config := { implicitDefEqProofs := false, maxSteps := 2000000 }) (disch := omega) only [ps, ↓reduceIte, reduceCtorEq, Int.reduceLT, Int.reduceLE, Int.reduceEq, Nat.reduceLT, Nat.reduceLeDiff, Nat.reduceEqDiff, Int.reduceNeg, eitherK]))
          exact h
        · (first | (refine Rn.t ?hc ?_; case hc => simp (config := { implicitDefEqProofs := false, maxSteps := 2000000 }) (disch := omega) only [ps, ↓reduceIte, reduceCtorEq, Int.reduceLT, Int.reduceLE, Int.reduceEq, Nat.reduceLT, Nat.reduceLeDiff, Nat.reduceEqDiff, Int.reduceNeg, eitherK, hbx]) | (refine Rn.f ?hc ?_; case hc => simp (config := { implicitDefEqProofs := false, maxSteps := 2000000 }) (disch := omega) only [ps, ↓reduceIte, reduceCtorEq, Int.reduceLT, Int.reduceLE, Int.reduceEq, Nat.reduceLT, Nat.reduceLeDiff, Nat.reduceEqDiff, Int.reduceNeg, eitherK, hbx]))
          exact h
      have hnt := ntail_ev s hs false 0 (by omega)
      rw [List.drop_zero] at hnt
      rw [hpz, hpd]
      refine ⟨fun h => head _ (hnt.1 fun hdc => h ⟨?_, ?_, ?_⟩), fun h => ?_⟩
      · rw [hpd]; intro h; rw [h] at hx; cases hx
      · rw [hpd, hx]; intro h; exact (h48i (Option.some.inj h)).2 (by have := Option.some.inj h; omega)
      · rw [hpd]; exact hdc
      · obtain ⟨a0, a1, q1, q2, q3⟩ := hnt.2 (by have := h.2.2; rwa [hpd] at this)
        exact ⟨a0, a1, head _ q1, q2, q3⟩
theorem rParse_ev (s : ByteArray) (hs : s.size ≤ 9223372036854775807) : ∃ r, Rn (fun k => Fshuntref01_Parse k s) r ∧ Pres (byt s) r := by
  have hlen := byt_len s
  suffices h : ∃ r, Rn (fun k => bshuntref01_Parse k s) r ∧ Pres (byt s) r by
    obtain ⟨r, h1, h2⟩ := h
    exact ⟨r, Rn.up (f := fun k => Fshuntref01_Parse k s) h1, h2⟩
  unfold bshuntref01_Parse
  by_cases hbig : 1024 < s.size
  · refine ⟨(false, [], 2), ?_, fun _ => rfl, fun h => by omega, fun h => by omega⟩
    (first | (refine Rn.t ?hc ?_; case hc => simp (config := { implicitDefEqProofs := false, maxSteps := 2000000 }) (disch := omega) only [ps, ↓reduceIte, reduceCtorEq, Int.reduceLT, Int.reduceLE, Int.reduceEq, Nat.reduceLT, Nat.reduceLeDiff, Nat.reduceEqDiff, Int.reduceNeg, eitherK]) | (refine Rn.f ?hc ?_; case hc => simp (config := { implicitDefEqProofs := false, maxSteps := 2000000 }) (disch := omega) only [ps, ↓reduceIte, reduceCtorEq, Int.reduceLT, Int.reduceLE, Int.reduceEq, Nat.reduceLT, Nat.reduceLeDiff, Nat.reduceEqDiff, Int.reduceNeg, eitherK]))
    exact Rn.pure _
  have hN := Number_ev s (by omega)
  by_cases hg : Pgd (byt s)
  · obtain ⟨a0, a1, q1, q2, q3⟩ := hN.2 hg
    obtain ⟨m, t1, t2, t3⟩ := told_ev a0 a1 (by omega) q2
    refine ⟨ans a0 m, ?_, fun h => by omega, fun _ h => absurd hg h, fun _ _ => ⟨a0, m, t2, rfl⟩⟩
    (first | (refine Rn.t ?hc ?_; case hc => simp (config := { implicitDefEqProofs := false, maxSteps := 2000000 }) (disch := omega) only [ps, ↓reduceIte, reduceCtorEq, Int.reduceLT, Int.reduceLE, Int.reduceEq, Nat.reduceLT, Nat.reduceLeDiff, Nat.reduceEqDiff, Int.reduceNeg, eitherK]) | (refine Rn.f ?hc ?_; case hc => simp (config := { implicitDefEqProofs := false, maxSteps := 2000000 }) (disch := omega) only [ps, ↓reduceIte, reduceCtorEq, Int.reduceLT, Int.reduceLE, Int.reduceEq, Nat.reduceLT, Nat.reduceLeDiff, Nat.reduceEqDiff, Int.reduceNeg, eitherK]))
    refine Rn.bind q1 ?_
    (first | (refine Rn.t ?hc ?_; case hc => simp (config := { implicitDefEqProofs := false, maxSteps := 2000000 }) (disch := omega) only [ps, ↓reduceIte, reduceCtorEq, Int.reduceLT, Int.reduceLE, Int.reduceEq, Nat.reduceLT, Nat.reduceLeDiff, Nat.reduceEqDiff, Int.reduceNeg, eitherK]) | (refine Rn.f ?hc ?_; case hc => simp (config := { implicitDefEqProofs := false, maxSteps := 2000000 }) (disch := omega) only [ps, ↓reduceIte, reduceCtorEq, Int.reduceLT, Int.reduceLE, Int.reduceEq, Nat.reduceLT, Nat.reduceLeDiff, Nat.reduceEqDiff, Int.reduceNeg, eitherK]))
    exact Rn.bind t1 (Rn.pure _)
  · refine ⟨(false, [], 3), ?_, fun h => by omega, fun _ _ => rfl, fun _ h => absurd h hg⟩
    (first | (refine Rn.t ?hc ?_; case hc => simp (config := { implicitDefEqProofs := false, maxSteps := 2000000 }) (disch := omega) only [ps, ↓reduceIte, reduceCtorEq, Int.reduceLT, Int.reduceLE, Int.reduceEq, Nat.reduceLT, Nat.reduceLeDiff, Nat.reduceEqDiff, Int.reduceNeg, eitherK]) | (refine Rn.f ?hc ?_; case hc => simp (config := { implicitDefEqProofs := false, maxSteps := 2000000 }) (disch := omega) only [ps, ↓reduceIte, reduceCtorEq, Int.reduceLT, Int.reduceLE, Int.reduceEq, Nat.reduceLT, Nat.reduceLeDiff, Nat.reduceEqDiff, Int.reduceNeg, eitherK]))
    refine Rn.bind (hN.1 hg) ?_
    (first | (refine Rn.t ?hc ?_; case hc => simp (config := { implicitDefEqProofs := false, maxSteps := 2000000 }) (disch := omega) only [ps, ↓reduceIte, reduceCtorEq, Int.reduceLT, Int.reduceLE, Int.reduceEq, Nat.reduceLT, Nat.reduceLeDiff, Nat.reduceEqDiff, Int.reduceNeg, eitherK]) | (refine Rn.f ?hc ?_; case hc => simp (config := { implicitDefEqProofs := false, maxSteps := 2000000 }) (disch := omega) only [ps, ↓reduceIte, reduceCtorEq, Int.reduceLT, Int.reduceLE, Int.reduceEq, Nat.reduceLT, Nat.reduceLeDiff, Nat.reduceEqDiff, Int.reduceNeg, eitherK]))
    exact Rn.pure _
end Go.Proofs.Ytghdpmejgonjmaa.Am
