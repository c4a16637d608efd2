/- Plain reckoning: division by one word; numbers in decimal digits; machine numbers. -/
import Derived.Test.YtghdpmejgonjmaaPlB4
set_option linter.unusedVariables false
set_option linter.unusedSimpArgs false
set_option maxRecDepth 10000
namespace Go.Proofs.Ytghdpmejgonjmaa.Am
open Go

theorem short_loop (k : Nat) (a : List Int) (dd : Int) (hla : a.length ≤ 1000000000) (ha : Dg W a) (hd : 0 < dd ∧ dd < W) :
    ∀ (m n : Nat) (r : Int) (qs : List Int), m ≤ a.length → m < n → 0 ≤ r ∧ r < dd → qs.length = a.length → Dg W qs → V W (a.drop m) = dd * V W (qs.drop m) + r →
    ∃ r' qs', Lbig_short_0 k n a dd a.length r ((m : Int) - 1) qs = some (a.length, r', qs') ∧ (0 ≤ r' ∧ r' < dd) ∧ qs'.length = a.length ∧ Dg W qs' ∧ V W a = dd * V W qs' + r' := by
  intro m
  induction m with
  | zero =>
    intro n r qs hm hn hr hl hq e
    obtain ⟨n, rfl⟩ : ∃ m, n = m + 1 := ⟨n - 1, by omega⟩
    refine ⟨r, qs, ?_, hr, hl, hq, e⟩
    show Lbig_short_0s k (Lbig_short_0 k n) _ _ _ _ _ _ = _
    unfold Lbig_short_0s
    simp (config := { implicitDefEqProofs := false, maxSteps := 2000000 }) (disch := omega) only [ps, ↓reduceIte, reduceCtorEq, Int.reduceLT, Int.reduceLE, Int.reduceEq, Nat.reduceLT, Nat.reduceLeDiff, Nat.reduceEqDiff, Int.reduceNeg, eitherK]
  | succ i ih =>
    intro n r qs hm hn hr hl hq e
    obtain ⟨n, rfl⟩ : ∃ m, n = m + 1 := ⟨n - 1, by omega⟩
    obtain ⟨x, hx⟩ := get_of (show i < a.length by omega)
    obtain ⟨o, ho⟩ := get_of (show i < qs.length by omega)
    have hxb := ha.get hx
    have h1 : (((i + 1 : Nat) : Int) - 1) = (i : Int) := by omega
    unfold W at hxb hd
    have hdm := Int.emod_add_mul_ediv (r * 4294967296 + x) dd
    have hr1 : 0 ≤ (r * 4294967296 + x) % dd ∧ (r * 4294967296 + x) % dd < dd := ⟨Int.emod_nonneg _ (by omega), Int.emod_lt_of_pos _ (by omega)⟩
    have hq1 : 0 ≤ (r * 4294967296 + x) / dd := Int.ediv_nonneg (by omega) (by omega)
    have hq2 : (r * 4294967296 + x) / dd < 4294967296 := by
      refine Int.ediv_lt_of_lt_mul (by omega) ?_
      have : r * 4294967296 + 4294967296 ≤ dd * 4294967296 := by omega
      rw [Int.mul_comm]; omega
    have hdrop : (qs.set i ((r * 4294967296 + x) / dd)).drop i = ((r * 4294967296 + x) / dd) :: qs.drop (i + 1) := by
      rw [List.drop_eq_getElem_cons (by simp; omega), List.getElem_set_self, List.drop_set_of_lt (by omega)]
    obtain ⟨r', qs', q1, q2⟩ := ih n ((r * 4294967296 + x) % dd) (qs.set i ((r * 4294967296 + x) / dd)) (by omega) (by omega) hr1 (by simpa using hl) (hq.set _ (by unfold W; omega)) (by
      rw [V_drop hx, e, hdrop]
      simp only [V]
      unfold W
      grind)
    refine ⟨r', qs', ?_, q2⟩
    rw [← q1]
    show Lbig_short_0s k (Lbig_short_0 k n) _ _ _ _ _ _ = _
    unfold Lbig_short_0s
    have e0 : IntKind.u64.wrap (r * 4294967296) = r * 4294967296 := wrap_u64_id (by omega)
    have e2 : IntKind.u64.wrap x = x := wrap_u64_id (by omega)
    have e1 := or_add (x := r) (y := x) (by omega) (by omega)
    have e3 : IntKind.u64.wrap (r * 4294967296 + x) = r * 4294967296 + x := wrap_u64_id (by omega)
    have e4 : IntKind.u64.wrap dd = dd := wrap_u64_id (by omega)
    have e5 : Int.tdiv (r * 4294967296 + x) dd = (r * 4294967296 + x) / dd := tdiv_pos (by omega)
    have e6 : Int.tmod (r * 4294967296 + x) dd = (r * 4294967296 + x) % dd := tmod_pos (by omega)
    simp (config := { implicitDefEqProofs := false, maxSteps := 2000000 }) (disch := omega) only [ps, ↓reduceIte, reduceCtorEq, Int.reduceLT, Int.reduceLE, Int.reduceEq, Nat.reduceLT, Nat.reduceLeDiff, Nat.reduceEqDiff, Int.reduceNeg, eitherK, hx, ho, h1, e0, e2, e1, e3, e4, e5, e6]
theorem short_ev (a : List Int) (dd : Int) (hla : a.length ≤ 1000000000) (ha : Dg W a) (hd : 0 < dd ∧ dd < W) :
    ∃ q r, (∀ k, a.length + 2 ≤ k → Fbig_short k a dd = some (q, r)) ∧ (0 ≤ r ∧ r < dd) ∧ q.length = a.length ∧ Dg W q ∧ V W a = dd * V W q + r := by
  have main : ∀ k, a.length < k → ∃ r' qs', Lbig_short_0 k k a dd a.length 0 ((a.length : Int) - 1) (List.replicate a.length 0) = some (a.length, r', qs') ∧ (0 ≤ r' ∧ r' < dd) ∧ qs'.length = a.length ∧ Dg W qs' ∧ V W a = dd * V W qs' + r' := by
    intro k hk
    exact short_loop k a dd hla ha hd a.length k 0 _ (Nat.le_refl _) hk (by omega) (by simp) (Dg.rep _ (by decide)) (by rw [List.drop_length, List.drop_of_length_le (by simp)]; simp [V])
  obtain ⟨r, q, h1, h2, h3, h4, h5⟩ := main (a.length + 1) (by omega)
  refine ⟨q, r, fun k hk => ?_, h2, h3, h4, h5⟩
  obtain ⟨k, rfl⟩ : ∃ m, k = m + 1 := ⟨k - 1, by omega⟩
  obtain ⟨r', q', g1, g2, g3, g4, g5⟩ := main k (by omega)
  have hq : V W q' = V W q ∧ r' = r := by
    have a1 : (dd * V W q' + r') % dd = r' := by rw [Int.add_comm, Int.add_mul_emod_self_left]; exact Int.emod_eq_of_lt g2.1 g2.2
    have a2 : (dd * V W q + r) % dd = r := by rw [Int.add_comm, Int.add_mul_emod_self_left]; exact Int.emod_eq_of_lt h2.1 h2.2
    have er : r' = r := by rw [← a1, ← a2, ← g5, ← h5]
    subst er
    have : dd * V W q' = dd * V W q := by omega
    exact ⟨Int.eq_of_mul_eq_mul_left (by omega) this, rfl⟩
  have hqq : q' = q := Dg.ext g4 h4 (by omega) hq.1
  show bbig_short k a dd = _
  unfold bbig_short
  unfold W at hd
  rw [← hqq, ← hq.2]
  simp (config := { implicitDefEqProofs := false, maxSteps := 2000000 }) (disch := omega) only [ps, ↓reduceIte, reduceCtorEq, Int.reduceLT, Int.reduceLE, Int.reduceEq, Nat.reduceLT, Nat.reduceLeDiff, Nat.reduceEqDiff, Int.reduceNeg, eitherK, g1, g3]
  rw [List.take_of_length_le (by omega)]

/-- The magnitude's digits, as bytes, the highest first; ahead of them the sign. -/
def bytesOf (l : List Int) : ByteArray := ByteArray.mk (List.toArray (List.map (fun n : Int => n.toNat.toUInt8) l))
def dec (neg : Bool) (l : List Int) : List Int := (if neg then [45] else []) ++ (l.map fun x => 48 + x).reverse
theorem NewInt_ev (v : Int) (hv : -9223372036854775808 ≤ v ∧ v ≤ 9223372036854775807) : ∃ l, Rn (fun k => Fbig_NewInt k v) (decide (v < 0), l) ∧ Nm W (decide (v < 0)) l v ∧ l.length ≤ 2 := by
  have main : ∀ u : Int, 0 ≤ u ∧ u < 18446744073709551616 → u = v.natAbs → ∃ l, Rn (fun k => Fbig_trim k (List.take 2 [u % 4294967296, u / 4294967296])) l ∧ Cn W l ∧ V W l = v.natAbs ∧ l.length ≤ 2 := by
    intro u hu e
    have hdm := Int.emod_add_mul_ediv u 4294967296
    have hdg : Dg W [u % 4294967296, u / 4294967296] := Dg.cons (by unfold W; omega) (Dg.cons (by unfold W; omega) Dg.nil)
    have := tl_len [u % 4294967296, u / 4294967296]
    refine ⟨tl [u % 4294967296, u / 4294967296], trim_ev _ (by simp), Cn.of hdg, ?_, by simpa using this⟩
    rw [V_tl]
    simp only [V]
    unfold W
    omega
  by_cases h : v < 0
  · obtain ⟨l, h1, h2, h3, h4⟩ := main (-v) (by omega) (by omega)
    refine ⟨l, ?_, Nm.of (by decide) h2 h3, h4⟩
    refine Rn.up (f := fun k => Fbig_NewInt k v) ?_
    show Rn (fun k => bbig_NewInt k v) _
    unfold bbig_NewInt
    have e1 : IntKind.u64.wrap (0 - IntKind.u64.wrap v) = -v := by rw [wrap_u64, wrap_u64]; omega
    have e2 : IntKind.u32.wrap (-v) = (-v) % 4294967296 := wrap_u32 _
    have e3 : IntKind.u32.wrap ((-v) / 4294967296) = (-v) / 4294967296 := wrap_u32_id (by omega)
    (first | (refine Rn.t ?hc ?_; case hc => simp (config := { implicitDefEqProofs := false, maxSteps := 2000000 }) (disch := omega) only [ps, ↓reduceIte, reduceCtorEq, Int.reduceLT, Int.reduceLE, Int.reduceEq, Nat.reduceLT, Nat.reduceLeDiff, Nat.reduceEqDiff, Int.reduceNeg, eitherK]) | (refine Rn.f ?hc ?_; case hc => simp (config := { implicitDefEqProofs := false, maxSteps := 2000000 }) (disch := omega) only [ps, ↓reduceIte, reduceCtorEq, Int.reduceLT, Int.reduceLE, Int.reduceEq, Nat.reduceLT, Nat.reduceLeDiff, Nat.reduceEqDiff, Int.reduceNeg, eitherK]))
    simp only [e1, e2, fdiv_pos (-v) (show (0 : Int) ≤ 4294967296 by decide), e3]
    exact Rn.bind h1 (Rn.pure _)
  · obtain ⟨l, h1, h2, h3, h4⟩ := main v (by omega) (by omega)
    refine ⟨l, ?_, Nm.of (by decide) h2 h3, h4⟩
    refine Rn.up (f := fun k => Fbig_NewInt k v) ?_
    show Rn (fun k => bbig_NewInt k v) _
    unfold bbig_NewInt
    have e1 : IntKind.u64.wrap v = v := wrap_u64_id (by omega)
    have e2 : IntKind.u32.wrap v = v % 4294967296 := wrap_u32 _
    have e3 : IntKind.u32.wrap (v / 4294967296) = v / 4294967296 := wrap_u32_id (by omega)
    (first | (refine Rn.t ?hc ?_; case hc => simp (config := { implicitDefEqProofs := false, maxSteps := 2000000 }) (disch := omega) only [ps, ↓reduceIte, reduceCtorEq, Int.reduceLT, Int.reduceLE, Int.reduceEq, Nat.reduceLT, Nat.reduceLeDiff, Nat.reduceEqDiff, Int.reduceNeg, eitherK]) | (refine Rn.f ?hc ?_; case hc => simp (config := { implicitDefEqProofs := false, maxSteps := 2000000 }) (disch := omega) only [ps, ↓reduceIte, reduceCtorEq, Int.reduceLT, Int.reduceLE, Int.reduceEq, Nat.reduceLT, Nat.reduceLeDiff, Nat.reduceEqDiff, Int.reduceNeg, eitherK]))
    simp only [e1, e2, fdiv_pos v (show (0 : Int) ≤ 4294967296 by decide), e3]
    exact Rn.bind h1 (Rn.pure _)
theorem limbOf_ev (v : Int) (hv : -9223372036854775808 ≤ v ∧ v ≤ 9223372036854775807) : ∃ l, Rn (fun k => Flimb_Of k v) (decide (v < 0), l) ∧ Nm W (decide (v < 0)) l v ∧ l.length ≤ 2 := by
  obtain ⟨l, h1, h2, h3⟩ := NewInt_ev v hv
  refine ⟨l, ?_, h2, h3⟩
  refine Rn.up (f := fun k => Flimb_Of k v) ?_
  show Rn (fun k => blimb_Of k v) _
  unfold blimb_Of
  refine Rn.bind h1 (Rn.bind (Give1_ev h2 (show l.length ≤ 1000000000 by omega)) ?_)
  (first | (refine Rn.t ?hc ?_; case hc => simp (config := { implicitDefEqProofs := false, maxSteps := 2000000 }) (disch := omega) only [ps, ↓reduceIte, reduceCtorEq, Int.reduceLT, Int.reduceLE, Int.reduceEq, Nat.reduceLT, Nat.reduceLeDiff, Nat.reduceEqDiff, Int.reduceNeg, eitherK]) | (refine Rn.f ?hc ?_; case hc => simp (config := { implicitDefEqProofs := false, maxSteps := 2000000 }) (disch := omega) only [ps, ↓reduceIte, reduceCtorEq, Int.reduceLT, Int.reduceLE, Int.reduceEq, Nat.reduceLT, Nat.reduceLeDiff, Nat.reduceEqDiff, Int.reduceNeg, eitherK]))
  rw [List.take_length]
  exact Rn.pure _

/-- Digits as signs. -/
def sg (l : List Int) : List Int := l.map fun x => 48 + x
theorem sg_len (l : List Int) : (sg l).length = l.length := by simp [sg]
theorem sg_snoc (l : List Int) (x : Int) : sg l ++ [48 + x] = sg (l ++ [x]) := by simp [sg]
theorem dig_loop (k : Nat) (a z1 : List Int) (z0 : Bool) : ∀ (d i n : Nat) (r : Int) (l : List Int), i + d = 9 → d < n → 0 ≤ r ∧ r < 10 ^ d → l.length ≤ 100000000000 + i → Dg 10 l → (a = [] → r = 0 → Cn 10 l) →
    ∃ l', Lbig_Int_String_awf_2 k n l.length a r i z0 z1 (sg l) = some (l'.length, a, z0, z1, sg l') ∧ Dg 10 l' ∧ V 10 l' = V 10 l + 10 ^ l.length * r ∧ (a = [] → Cn 10 l') ∧ (a ≠ [] → l'.length = l.length + d) ∧ l'.length ≤ l.length + d := by
  intro d
  induction d with
  | zero =>
    intro i n r l hi hn hr hl hd hc
    obtain ⟨n, rfl⟩ : ∃ m, n = m + 1 := ⟨n - 1, by omega⟩
    have hr0 : r = 0 := by simp at hr; omega
    subst hr0
    refine ⟨l, ?_, hd, by simp, fun h => hc h rfl, fun _ => rfl, Nat.le_refl _⟩
    show Lbig_Int_String_awf_2s k (Lbig_Int_String_awf_2 k n) _ _ _ _ _ _ _ = _
    unfold Lbig_Int_String_awf_2s
    simp (config := { implicitDefEqProofs := false, maxSteps := 2000000 }) (disch := omega) only [ps, ↓reduceIte, reduceCtorEq, Int.reduceLT, Int.reduceLE, Int.reduceEq, Nat.reduceLT, Nat.reduceLeDiff, Nat.reduceEqDiff, Int.reduceNeg, eitherK]
  | succ d ih =>
    intro i n r l hi hn hr hl hd hc
    obtain ⟨n, rfl⟩ : ∃ m, n = m + 1 := ⟨n - 1, by omega⟩
    by_cases hgo : 0 < r ∨ a ≠ []
    · have h10 : (10 : Int) ^ (d + 1) ≤ 1000000000 := by
        have := pow_mono (B := 10) (by decide) (show d + 1 ≤ 9 by omega)
        simpa using this
      have hr2 : r / 10 < 10 ^ d := by
        have := hr.2
        rw [Int.pow_succ] at this
        omega
      have hrb : r < 1000000000 := by omega
      have hdm := Int.emod_add_mul_ediv r 10
      have hlen : (l ++ [r % 10]).length = l.length + 1 := by simp
      obtain ⟨o', q1, q2, q3, q4, q5, q6⟩ := ih (i + 1) n (r / 10) (l ++ [r % 10]) (by omega) (by omega) ⟨by omega, hr2⟩ (by rw [hlen]; omega) (hd.snoc (by omega)) (fun ha h0 => by
        refine ⟨hd.snoc (by omega), (Cn.last (hd.snoc (by omega))).2 (.inr ⟨l, r % 10, rfl, ?_⟩)⟩
        rcases hgo with h | h
        · omega
        · exact absurd ha h)
      refine ⟨o', ?_, q2, ?_, q4, fun h => by rw [q5 h, hlen]; omega, by rw [hlen] at q6; omega⟩
      · rw [hlen] at q1
        rw [← q1]
        show Lbig_Int_String_awf_2s k (Lbig_Int_String_awf_2 k n) _ _ _ _ _ _ _ = _
        unfold Lbig_Int_String_awf_2s
        have h1 : ((i : Int) + 1) = ((i + 1 : Nat) : Int) := rfl
        have ht : (sg l).take l.length = sg l := List.take_of_length_le (by rw [sg_len]; omega)
        have e1 : IntKind.u8.wrap (IntKind.u32.wrap (48 + Int.tmod r 10)) = 48 + r % 10 := by
          rw [tmod_pos hr.1, wrap_u32_id (by omega), wrap_u8_id (by omega)]
        have e2 : IntKind.u32.wrap (Int.tdiv r 10) = r / 10 := by
          rw [tdiv_pos hr.1, wrap_u32_id (by omega)]
        by_cases h : 0 < r
        · simp (config := { implicitDefEqProofs := false, maxSteps := 2000000 }) (disch := omega) only [ps, ↓reduceIte, reduceCtorEq, Int.reduceLT, Int.reduceLE, Int.reduceEq, Nat.reduceLT, Nat.reduceLeDiff, Nat.reduceEqDiff, Int.reduceNeg, eitherK, h, h1, ht, e1, e2, sg_len, List.take_succ_cons, List.length_cons, sg_snoc]
        · have ha : a ≠ [] := by rcases hgo with h' | h'
                                 · exact absurd h' h
                                 · exact h'
          have hal : 0 < a.length := by cases a with
            | nil => exact absurd rfl ha
            | cons _ _ => simp
          simp (config := { implicitDefEqProofs := false, maxSteps := 2000000 }) (disch := omega) only [ps, ↓reduceIte, reduceCtorEq, Int.reduceLT, Int.reduceLE, Int.reduceEq, Nat.reduceLT, Nat.reduceLeDiff, Nat.reduceEqDiff, Int.reduceNeg, eitherK, h, h1, ht, e1, e2, sg_len, List.take_succ_cons, List.length_cons, sg_snoc]
      · rw [q3, V_snoc, hlen, Int.pow_succ]
        grind
    · have hr0 : r = 0 := by omega
      have ha : a = [] := by
        by_cases h : a = []
        · exact h
        · exact absurd (.inr h) hgo
      subst hr0; subst ha
      refine ⟨l, ?_, hd, by simp, fun h => hc h rfl, fun h => absurd rfl h, by omega⟩
      show Lbig_Int_String_awf_2s k (Lbig_Int_String_awf_2 k n) _ _ _ _ _ _ _ = _
      unfold Lbig_Int_String_awf_2s
      simp (config := { implicitDefEqProofs := false, maxSteps := 2000000 }) (disch := omega) only [ps, ↓reduceIte, reduceCtorEq, Int.reduceLT, Int.reduceLE, Int.reduceEq, Nat.reduceLT, Nat.reduceLeDiff, Nat.reduceEqDiff, Int.reduceNeg, eitherK]
theorem str_loop (k : Nat) (z1 : List Int) (z0 : Bool) (hk : 1000000000 < k) : ∀ (d n : Nat) (a l : List Int), V W a < 1000000000 ^ d → Cn W a → a.length ≤ 1000 → d < n → l.length + 9 * d ≤ 10000000 → Dg 10 l → (a = [] → Cn 10 l) →
    ∃ l', Lbig_Int_String_awf_0 k n l.length a z0 z1 (sg l) = some (l'.length, z0, z1, sg l') ∧ Cn 10 l' ∧ V 10 l' = V 10 l + 10 ^ l.length * V W a ∧ l'.length ≤ l.length + 9 * d := by
  intro d
  induction d with
  | zero =>
    intro n a l hv hc ha hn hl hd hcl
    obtain ⟨n, rfl⟩ : ∃ m, n = m + 1 := ⟨n - 1, by omega⟩
    have p := V_nonneg (B := W) (by decide) hc.1
    have h0 : V W a = 0 := by simp at hv; omega
    have ha0 := (hc.nil_iff (B := W) (by decide)).2 h0
    subst ha0
    refine ⟨l, ?_, hcl rfl, by simp [V], by omega⟩
    show Lbig_Int_String_awf_0s k (Lbig_Int_String_awf_0 k n) _ _ _ _ _ = _
    unfold Lbig_Int_String_awf_0s
    simp (config := { implicitDefEqProofs := false, maxSteps := 2000000 }) (disch := omega) only [ps, ↓reduceIte, reduceCtorEq, Int.reduceLT, Int.reduceLE, Int.reduceEq, Nat.reduceLT, Nat.reduceLeDiff, Nat.reduceEqDiff, Int.reduceNeg, eitherK]
  | succ d ih =>
    intro n a l hv hc ha hn hl hd hcl
    obtain ⟨n, rfl⟩ : ∃ m, n = m + 1 := ⟨n - 1, by omega⟩
    by_cases ha0 : a = []
    · subst ha0
      refine ⟨l, ?_, hcl rfl, by simp [V], by omega⟩
      show Lbig_Int_String_awf_0s k (Lbig_Int_String_awf_0 k n) _ _ _ _ _ = _
      unfold Lbig_Int_String_awf_0s
      simp (config := { implicitDefEqProofs := false, maxSteps := 2000000 }) (disch := omega) only [ps, ↓reduceIte, reduceCtorEq, Int.reduceLT, Int.reduceLE, Int.reduceEq, Nat.reduceLT, Nat.reduceLeDiff, Nat.reduceEqDiff, Int.reduceNeg, eitherK]
    · obtain ⟨q, r, s1, s2, s3, s4, s5⟩ := short_ev a 1000000000 (by omega) hc.1 (by unfold W; decide)
      have cq := Cn.of s4
      have vq := V_tl (B := W) q
      have hlq := tl_len q
      have hal : 0 < a.length := by cases a with
        | nil => exact absurd rfl ha0
        | cons _ _ => simp
      have hpos : 0 < V W a := by
        have h1 := V_nonneg (B := W) (by decide) hc.1
        have h2 := mt (hc.nil_iff (B := W) (by decide)).2 ha0
        omega
      have hvq : V W (tl q) < 1000000000 ^ d := by
        rw [vq]
        rw [Int.pow_succ] at hv
        have h1 : 1000000000 * V W q < 1000000000 * 1000000000 ^ d := by rw [Int.mul_comm 1000000000 (1000000000 ^ d)]; omega
        exact Int.lt_of_mul_lt_mul_left h1 (by decide)
      obtain ⟨l1, t1, t2, t3, t4, t5, t6⟩ := dig_loop k (tl q) z1 z0 9 0 k r l (by omega) (by omega) (by simpa using s2) (by omega) hd (fun h h0 => by
        exfalso
        have h1 := (cq.nil_iff (B := W) (by decide)).1 h
        rw [vq] at h1
        rw [h1, h0] at s5
        omega)
      have hlong : tl q ≠ [] → V 10 l1 = V 10 l + 10 ^ l.length * r := fun _ => t3
      by_cases hq0 : tl q = []
      · -- the last round
        obtain ⟨l2, u1, u2, u3, u4⟩ := ih n (tl q) l1 hvq cq (by omega) (by omega) (by omega) t2 t4
        refine ⟨l2, ?_, u2, ?_, by omega⟩
        · rw [← u1]
          show Lbig_Int_String_awf_0s k (Lbig_Int_String_awf_0 k n) _ _ _ _ _ = _
          unfold Lbig_Int_String_awf_0s
          have ht := (trim_ev q (by omega))
          have t1' : Lbig_Int_String_awf_2 k k l.length (tl q) r 0 z0 z1 (sg l) = _ := t1
          have ht : Fbig_trim k q = some (tl q) := by
            obtain ⟨k, rfl⟩ : ∃ m, k = m + 1 := ⟨k - 1, by omega⟩
            show bbig_trim k q = _
            unfold bbig_trim
            rw [trim_loop k q (by omega) q.length k (Nat.le_refl _) (by omega)]
            simp (config := { implicitDefEqProofs := false, maxSteps := 2000000 }) (disch := omega) only [ps, ↓reduceIte, reduceCtorEq, Int.reduceLT, Int.reduceLE, Int.reduceEq, Nat.reduceLT, Nat.reduceLeDiff, Nat.reduceEqDiff, Int.reduceNeg, eitherK, List.take_length, tl_take]
          have hs := s1 k (by omega)
          simp (config := { implicitDefEqProofs := false, maxSteps := 2000000 }) (disch := omega) only [ps, ↓reduceIte, reduceCtorEq, Int.reduceLT, Int.reduceLE, Int.reduceEq, Nat.reduceLT, Nat.reduceLeDiff, Nat.reduceEqDiff, Int.reduceNeg, eitherK, hs, ht, t1']
        · rw [hq0] at u3 vq
          simp only [V] at u3 vq
          rw [u3, t3, s5, ← vq]; simp
      · obtain ⟨l2, u1, u2, u3, u4⟩ := ih n (tl q) l1 hvq cq (by omega) (by omega) (by omega) t2 t4
        refine ⟨l2, ?_, u2, ?_, by omega⟩
        · rw [← u1]
          show Lbig_Int_String_awf_0s k (Lbig_Int_String_awf_0 k n) _ _ _ _ _ = _
          unfold Lbig_Int_String_awf_0s
          have t1' : Lbig_Int_String_awf_2 k k l.length (tl q) r 0 z0 z1 (sg l) = _ := t1
          have ht : Fbig_trim k q = some (tl q) := by
            obtain ⟨k, rfl⟩ : ∃ m, k = m + 1 := ⟨k - 1, by omega⟩
            show bbig_trim k q = _
            unfold bbig_trim
            rw [trim_loop k q (by omega) q.length k (Nat.le_refl _) (by omega)]
            simp (config := { implicitDefEqProofs := false, maxSteps := 2000000 }) (disch := omega) only [ps, ↓reduceIte, reduceCtorEq, Int.reduceLT, Int.reduceLE, Int.reduceEq, Nat.reduceLT, Nat.reduceLeDiff, Nat.reduceEqDiff, Int.reduceNeg, eitherK, List.take_length, tl_take]
          have hs := s1 k (by omega)
          simp (config := { implicitDefEqProofs := false, maxSteps := 2000000 }) (disch := omega) only [ps, ↓reduceIte, reduceCtorEq, Int.reduceLT, Int.reduceLE, Int.reduceEq, Nat.reduceLT, Nat.reduceLeDiff, Nat.reduceEqDiff, Int.reduceNeg, eitherK, hs, ht, t1']
        · rw [u3, t3, t5 hq0, vq, s5, Int.pow_add]
          have : (10 : Int) ^ 9 = 1000000000 := by decide
          rw [this]
          grind
end Go.Proofs.Ytghdpmejgonjmaa.Am
