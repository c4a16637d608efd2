/- Plain reckoning: the program's own whole numbers read from decimal digits. -/
import Derived.Test.YtghdpmejgonjmaaPlD1
set_option linter.unusedVariables false
set_option linter.unusedSimpArgs false
set_option maxRecDepth 10000
namespace Go.Proofs.Ytghdpmejgonjmaa.Am
open Go

theorem mulj_inner (k : Nat) (x y1 x11 : List Int) (x1 x2 : Int) (x0 y0 : Bool) (hy : Dg W y1) (i : Nat) (a : Int) (ha : 0 ≤ a ∧ a < W) (n12 : Nat) (hn12 : n12 ≤ 2000000000) (hi : i + y1.length < n12) :
    ∀ (d j n : Nat) (carry : Int) (outs : List Int), j + d = y1.length → d < n → 0 ≤ carry ∧ carry < W → outs.length = n12 → Dg W outs →
    ∃ carry' outs', Lbig_Int_Mul_jod_2 k n n12 i a carry x x1 x2 y1 y1.length j x0 x11 y0 y1 outs = some (n12, (i : Int), carry', x, x1, x2, x0, x11, y0, y1, outs') ∧ (0 ≤ carry' ∧ carry' < W) ∧ outs'.length = n12 ∧ Dg W outs' ∧
      V W outs' + carry' * W ^ (i + y1.length) = V W outs + carry * W ^ (i + j) + a * W ^ (i + j) * V W (y1.drop j) ∧ ∀ p, i + y1.length ≤ p → outs'[p]? = outs[p]? := by
  intro d
  induction d with
  | zero =>
    intro j n carry outs hj hn hc hl hd
    obtain ⟨n, rfl⟩ : ∃ m, n = m + 1 := ⟨n - 1, by omega⟩
    have : j = y1.length := by omega
    subst this
    refine ⟨carry, outs, ?_, hc, hl, hd, ?_, fun p _ => rfl⟩
    · show Lbig_Int_Mul_jod_2s k (Lbig_Int_Mul_jod_2 k n) _ _ _ _ _ _ _ _ _ _ _ _ _ _ _ = _
      unfold Lbig_Int_Mul_jod_2s
      simp (config := { implicitDefEqProofs := false, maxSteps := 2000000 }) (disch := omega) only [ps, ↓reduceIte, reduceCtorEq, Int.reduceLT, Int.reduceLE, Int.reduceEq, Nat.reduceLT, Nat.reduceLeDiff, Nat.reduceEqDiff, Int.reduceNeg, eitherK]
    · rw [List.drop_length]; simp [V]
  | succ d ih =>
    intro j n carry outs hj hn hc hl hd
    obtain ⟨n, rfl⟩ : ∃ m, n = m + 1 := ⟨n - 1, by omega⟩
    obtain ⟨b, hb⟩ := get_of (show j < y1.length by omega)
    obtain ⟨o, ho⟩ := get_of (show i + j < outs.length by omega)
    have hbb := hy.get hb
    have hob := hd.get ho
    have h1 : ((j : Int) + 1) = ((j + 1 : Nat) : Int) := rfl
    have h2 : ((i : Int) + (j : Int)) = ((i + j : Nat) : Int) := rfl
    unfold W at ha hbb hob hc
    have hm := mul_bd ha hbb
    have hdm := Int.emod_add_mul_ediv (a * b + o + carry) W
    obtain ⟨c', o', q1, q2, q3, q4, q5, q6⟩ := ih (j + 1) n ((a * b + o + carry) / W) (outs.set (i + j) ((a * b + o + carry) % W)) (by omega) (by omega) (by unfold W; omega) (by simpa using hl) (hd.set _ (by unfold W; omega))
    refine ⟨c', o', ?_, q2, q3, q4, ?_, fun p hp => ?_⟩
    · rw [← q1]
      show Lbig_Int_Mul_jod_2s k (Lbig_Int_Mul_jod_2 k n) _ _ _ _ _ _ _ _ _ _ _ _ _ _ _ = _
      unfold Lbig_Int_Mul_jod_2s
      simp (config := { implicitDefEqProofs := false, maxSteps := 2000000 }) (disch := omega) only [ps, ↓reduceIte, reduceCtorEq, Int.reduceLT, Int.reduceLE, Int.reduceEq, Nat.reduceLT, Nat.reduceLeDiff, Nat.reduceEqDiff, Int.reduceNeg, eitherK, hb, h1, h2, ho, fdiv_pos, wrap_u32]
    · rw [q5, V_set _ ho, V_drop hb, ← Nat.add_assoc, Int.pow_succ]
      grind
    · rw [q6 p hp, List.getElem?_set_ne (by omega)]
theorem mulj_outer (k : Nat) (x1 y1 : List Int) (x0 y0 : Bool) (hx : Dg W x1) (hy : Dg W y1) (hlx : x1.length ≤ 1000000000) (hly : y1.length ≤ 1000000000) (hk : y1.length < k) :
    ∀ (d i n : Nat) (outs : List Int), i + d = x1.length → d < n → outs.length = x1.length + y1.length → Dg W outs → V W outs = V W (x1.take i) * V W y1 → (∀ p, i + y1.length ≤ p → p < outs.length → outs[p]? = some 0) →
    ∃ outs', Lbig_Int_Mul_jod_0 k n (x1.length + y1.length) x1 x1.length i x0 x1 y0 y1 outs = some (x1.length + y1.length, x0, x1, y0, y1, outs') ∧ outs'.length = x1.length + y1.length ∧ Dg W outs' ∧ V W outs' = V W x1 * V W y1 := by
  intro d
  induction d with
  | zero =>
    intro i n outs hi hn hl hd e h0
    obtain ⟨n, rfl⟩ : ∃ m, n = m + 1 := ⟨n - 1, by omega⟩
    have : i = x1.length := by omega
    subst this
    refine ⟨outs, ?_, hl, hd, by rw [e, List.take_length]⟩
    show Lbig_Int_Mul_jod_0s k (Lbig_Int_Mul_jod_0 k n) _ _ _ _ _ _ _ _ _ = _
    unfold Lbig_Int_Mul_jod_0s
    simp (config := { implicitDefEqProofs := false, maxSteps := 2000000 }) (disch := omega) only [ps, ↓reduceIte, reduceCtorEq, Int.reduceLT, Int.reduceLE, Int.reduceEq, Nat.reduceLT, Nat.reduceLeDiff, Nat.reduceEqDiff, Int.reduceNeg, eitherK]
  | succ d ih =>
    intro i n outs hi hn hl hd e h0
    obtain ⟨n, rfl⟩ : ∃ m, n = m + 1 := ⟨n - 1, by omega⟩
    obtain ⟨a, ha⟩ := get_of (show i < x1.length by omega)
    have hab := hx.get ha
    obtain ⟨c', o', q1, q2, q3, q4, q5, q6⟩ := mulj_inner k x1 y1 x1 x1.length i x0 y0 hy i a hab (x1.length + y1.length) (by omega) (by omega) y1.length 0 k 0 outs (by omega) (by omega) (by decide) hl hd
    have hz : o'[i + y1.length]? = some 0 := by rw [q6 _ (Nat.le_refl _)]; exact h0 _ (Nat.le_refl _) (by omega)
    have h1 : ((i : Int) + 1) = ((i + 1 : Nat) : Int) := rfl
    have h2 : ((i : Int) + (y1.length : Int)) = ((i + y1.length : Nat) : Int) := rfl
    have e2 : V W (o'.set (i + y1.length) c') = V W (x1.take (i + 1)) * V W y1 := by
      rw [V_set _ hz, V_take_succ ha, Int.sub_zero]
      simp only [Nat.add_zero, List.drop_zero, Int.zero_mul, Int.add_zero] at q5
      rw [e] at q5
      rw [Int.add_mul, Int.mul_comm (W ^ i) a, ← q5, Int.mul_comm c']
    have e3 : ∀ p, (i + 1) + y1.length ≤ p → p < (o'.set (i + y1.length) c').length → (o'.set (i + y1.length) c')[p]? = some 0 := by
      intro p hp hpl
      rw [List.getElem?_set_ne (by omega), q6 p (by omega)]
      exact h0 p (by omega) (by simp at hpl; omega)
    obtain ⟨o2, r1, r2⟩ := ih (i + 1) n (o'.set (i + y1.length) c') (by omega) (by omega) (by simpa using q3) (q4.set _ q2) e2 e3
    refine ⟨o2, ?_, r2⟩
    rw [← r1]
    show Lbig_Int_Mul_jod_0s k (Lbig_Int_Mul_jod_0 k n) _ _ _ _ _ _ _ _ _ = _
    unfold Lbig_Int_Mul_jod_0s
    have q1' : Lbig_Int_Mul_jod_2 k k (x1.length + y1.length) i a 0 x1 x1.length i y1 y1.length 0 x0 x1 y0 y1 outs = _ := q1
    unfold W at q2
    simp (config := { implicitDefEqProofs := false, maxSteps := 2000000 }) (disch := omega) only [ps, ↓reduceIte, reduceCtorEq, Int.reduceLT, Int.reduceLE, Int.reduceEq, Nat.reduceLT, Nat.reduceLeDiff, Nat.reduceEqDiff, Int.reduceNeg, eitherK, ha, q1', h1, h2, hz]
theorem Mulj_ev (x0 y0 : Bool) (x1 y1 : List Int) {x y : Int} (nx : Nm W x0 x1 x) (ny : Nm W y0 y1 y) (hx : x1.length ≤ 1000000) (hy : y1.length ≤ 1000000) :
    ∃ s l, Rn (fun k => Fbig_Int_Mul_jod k x0 x1 y0 y1) (s, l, y0, y1) ∧ Nm W s l (x * y) ∧ l.length ≤ x1.length + y1.length := by
  have hW : (0 : Int) < W := by decide
  have main : ∀ k, x1.length + y1.length < k → ∃ outs', Lbig_Int_Mul_jod_0 k k (x1.length + y1.length) x1 x1.length (0 : Int) x0 x1 y0 y1 (List.replicate (x1.length + y1.length) 0) = some (x1.length + y1.length, x0, x1, y0, y1, outs') ∧ outs'.length = x1.length + y1.length ∧ Dg W outs' ∧ V W outs' = V W x1 * V W y1 := by
    intro k hk
    refine mulj_outer k x1 y1 x0 y0 nx.c.1 ny.c.1 (by omega) (by omega) (by omega) x1.length 0 k _ (by omega) (by omega) (by simp) (Dg.rep _ hW) (by rw [V_rep]; simp [V]) ?_
    intro p _ hp
    rw [List.getElem?_replicate_of_lt (by simpa using hp)]
  obtain ⟨o, q1, q2, q3, q4⟩ := main (x1.length + y1.length + 1) (by omega)
  refine ⟨sgn (!(x0 == y0)) o, tl o, ?_, ?_, by have := tl_len o; omega⟩
  · obtain ⟨K, hK⟩ := set2_ev (!(x0 == y0)) x0 o x1 (by omega)
    refine Rn.up (f := fun k => Fbig_Int_Mul_jod k x0 x1 y0 y1) (Rn.eq (max K (x1.length + y1.length + 1)) fun k hk => ?_)
    show bbig_Int_Mul_jod k x0 x1 y0 y1 = _
    unfold bbig_Int_Mul_jod
    obtain ⟨o', r1, r2, r3, r4⟩ := main k (by omega)
    have ho : o' = o := Dg.ext r3 q3 (by omega) (by omega)
    subst ho
    have h2 : ((x1.length : Int) + (y1.length : Int)) = ((x1.length + y1.length : Nat) : Int) := rfl
    have hs := hK k (by omega)
    have ht : List.take (x1.length + y1.length) o' = o' := List.take_of_length_le (by omega)
    simp (config := { implicitDefEqProofs := false, maxSteps := 2000000 }) (disch := omega) only [ps, ↓reduceIte, reduceCtorEq, Int.reduceLT, Int.reduceLE, Int.reduceEq, Nat.reduceLT, Nat.reduceLeDiff, Nat.reduceEqDiff, Int.reduceNeg, eitherK, h2, r1, r2, ht, hs]
  · refine (sgn_nm (neg := !(x0 == y0)) q3 q4).cast ?_
    rw [← nx.z, ← ny.z]
    cases x0 <;> cases y0 <;> simp [Int.neg_mul, Int.mul_neg]
theorem tl_rep (n : Nat) : tl (List.replicate n (0 : Int)) = [] := by
  induction n with
  | zero => rfl
  | succ n ih => rw [List.replicate_succ, tl, ih, if_pos ⟨rfl, rfl⟩]
theorem Mulu_ev (x y0 : Bool) (y1 : List Int) (hy : y1.length ≤ 1000000) : Rn (fun k => Fbig_Int_Mul_uzb k x y0 y1) (false, [], y0, y1) := by
  have hs := set1_ev (!(x == y0)) x (List.replicate y1.length 0) (by rw [List.length_replicate]; omega)
  have hsg : sgn (!(x == y0)) (List.replicate y1.length 0) = false := by unfold sgn; rw [tl_rep]; simp
  rw [hsg, tl_rep] at hs
  obtain ⟨K, hK⟩ := hs
  refine Rn.up (f := fun k => Fbig_Int_Mul_uzb k x y0 y1) (Rn.eq (max K 1) fun k hk => ?_)
  show bbig_Int_Mul_uzb k x y0 y1 = _
  unfold bbig_Int_Mul_uzb
  have hl : Lbig_Int_Mul_uzb_0 k k y1.length 0 0 0 x y0 y1 (List.replicate y1.length 0) [] = some (y1.length, x, y0, y1, List.replicate y1.length 0, []) := by
    obtain ⟨k, rfl⟩ : ∃ m, k = m + 1 := ⟨k - 1, by omega⟩
    show Lbig_Int_Mul_uzb_0s (k + 1) (Lbig_Int_Mul_uzb_0 (k + 1) k) _ _ _ _ _ _ _ _ _ = _
    unfold Lbig_Int_Mul_uzb_0s
    simp (config := { implicitDefEqProofs := false, maxSteps := 2000000 }) (disch := omega) only [ps, ↓reduceIte, reduceCtorEq, Int.reduceLT, Int.reduceLE, Int.reduceEq, Nat.reduceLT, Nat.reduceLeDiff, Nat.reduceEqDiff, Int.reduceNeg, eitherK]
  have hk1 := hK k (by omega)
  have ht : List.take y1.length (List.replicate y1.length (0 : Int)) = List.replicate y1.length 0 := List.take_of_length_le (by simp)
  simp (config := { implicitDefEqProofs := false, maxSteps := 2000000 }) (disch := omega) only [ps, ↓reduceIte, reduceCtorEq, Int.reduceLT, Int.reduceLE, Int.reduceEq, Nat.reduceLT, Nat.reduceLeDiff, Nat.reduceEqDiff, Int.reduceNeg, eitherK, Int.zero_add, hl, List.length_replicate, ht, hk1]
/-- What decimal signs say. -/
def hn (a : Int) : List Int → Int
  | [] => a
  | c :: r => hn (a * 10 + (c - 48)) r
def byt (s : ByteArray) : List Int := s.data.toList.map fun b => (b.toNat : Int)
theorem byt_len (s : ByteArray) : (byt s).length = s.size := by
  unfold byt; rw [List.length_map, Array.length_toList]; rfl
theorem byt_get {s : ByteArray} {i : Nat} {x : Int} (h : (byt s)[i]? = some x) : ∃ b : UInt8, s.data[i]? = some b ∧ (b.toNat : Int) = x := by
  simp only [byt, List.getElem?_map] at h
  cases hb : s.data.toList[i]? with
  | none => rw [hb] at h; cases h
  | some b =>
    rw [hb] at h
    refine ⟨b, by simpa using hb, by simpa using h⟩
/-- All decimal signs. -/
def Dc (l : List Int) : Prop := ∀ x ∈ l, 48 ≤ x ∧ x ≤ 57
theorem digits_loop (k0 : Nat) (s : ByteArray) (hs : s.size ≤ 1024) (hd : Dc (byt s)) : ∀ (d i : Nat) (n0 : Bool) (l : List Int) (z : Int), i + d = s.size → Nm W n0 l z → 0 ≤ z → l.length ≤ 4 * i →
    ∃ n1 l1, Rl (fun k n => Lbig_Digits_0 k n (Sum.inr (s, (s.size : Int), (i : Int), n0, l, false, [10]))) (Sum.inr (n1, l1, false, [10])) ∧ Nm W n1 l1 (hn z ((byt s).drop i)) ∧ l1.length ≤ 4 * s.size := by
  intro d
  induction d with
  | zero =>
    intro i n0 l z hi hn0 hz hl
    refine ⟨n0, l, ?_, ?_, by omega⟩
    · refine Rl.up (f := fun k n => Lbig_Digits_0 k n _) (Rl.of 0 fun k n _ => ?_)
      show Lbig_Digits_0s k (Lbig_Digits_0 k n) _ = _
      unfold Lbig_Digits_0s
      simp (config := { implicitDefEqProofs := false, maxSteps := 2000000 }) (disch := omega) only [ps, ↓reduceIte, reduceCtorEq, Int.reduceLT, Int.reduceLE, Int.reduceEq, Nat.reduceLT, Nat.reduceLeDiff, Nat.reduceEqDiff, Int.reduceNeg, eitherK]
    · rw [List.drop_of_length_le (by rw [byt_len]; omega)]
      exact hn0
  | succ d ih =>
    intro i n0 l z hi hn0 hz hl
    obtain ⟨x, hx⟩ := get_of (show i < (byt s).length by rw [byt_len]; omega)
    have hxb := hd x (List.mem_of_getElem? hx)
    obtain ⟨b, hb, hbx⟩ := byt_get hx
    have n10 : Nm W false [10] 10 := ⟨⟨Dg.cons (by decide) Dg.nil, by decide⟩, fun h => (by cases h), by decide⟩
    obtain ⟨s1, l1, p1, p2, p3⟩ := Mulj_ev n0 false l [10] hn0 n10 (by omega) (by simp)
    obtain ⟨l2, q1, q2, q3⟩ := NewInt_ev (x - 48) (by omega)
    have hdf : decide (x - 48 < 0) = false := by rw [decide_eq_false_iff_not]; omega
    rw [hdf] at q1 q2
    have hlen10 : ([10] : List Int).length = 1 := rfl
    rw [hlen10] at p3
    obtain ⟨s3, l3, r1, r2, r3⟩ := Add2_ev s1 _ l1 l2 p2 q2 (by omega) (by omega)
    obtain ⟨n1, l4, t1, t2, t3⟩ := ih (i + 1) s3 l3 (z * 10 + (x - 48)) (by omega) r2 (by omega) (by omega)
    refine ⟨n1, l4, ?_, ?_, t3⟩
    · have h1 : ((i : Int) + 1) = ((i + 1 : Nat) : Int) := rfl
      have e1 : IntKind.i64.wrap (IntKind.u8.wrap (((UInt8.toNat b : Nat) : Int) - 48)) = x - 48 := by
        rw [hbx, wrap_u8_id (by omega), wrap_i64 (by omega)]
      obtain ⟨K1, p1⟩ := p1
      obtain ⟨K2, q1⟩ := q1
      obtain ⟨K3, r1⟩ := r1
      obtain ⟨K4, t1⟩ := t1
      refine ⟨max (max K1 K2) (max K3 K4) + 1, fun k n hk hn => ?_⟩
      obtain ⟨n, rfl⟩ : ∃ m, n = m + 1 := ⟨n - 1, by omega⟩
      have p1' := p1 k (by omega)
      have q1' := q1 k (by omega)
      have r1' := r1 k (by omega)
      have t1' := t1 k n (by omega) (by omega)
      rw [← t1']
      show Lbig_Digits_0s k (Lbig_Digits_0 k n) _ = _
      unfold Lbig_Digits_0s
      simp only [] at p1' q1' r1'
      have hlt : (i : Int) < (s.size : Int) := by omega
      simp (config := { implicitDefEqProofs := false, maxSteps := 2000000 }) (disch := omega) only [ps, ↓reduceIte, reduceCtorEq, Int.reduceLT, Int.reduceLE, Int.reduceEq, Nat.reduceLT, Nat.reduceLeDiff, Nat.reduceEqDiff, Int.reduceNeg, eitherK, p1', hb, hbx, q1', r1', h1]
    · have : (byt s).drop i = x :: (byt s).drop (i + 1) := by
        obtain ⟨hh, rfl⟩ := List.getElem?_eq_some_iff.1 hx
        exact List.drop_eq_getElem_cons hh
      rw [this]
      exact t2
end Go.Proofs.Ytghdpmejgonjmaa.Am
