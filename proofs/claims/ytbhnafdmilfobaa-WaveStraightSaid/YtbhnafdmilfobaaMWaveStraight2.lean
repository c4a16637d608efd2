/- The law WaveStraight returns true for every input, and its arguments read as they did. -/
import Derived.Test.YtbhnafdmilfobaaMWaveStraight1
import Derived.Test.YtbhnafdmilfobaaRows
import Derived.WalkKit
import Derived.ProofKit
import Derived.OpenShut
import Derived.ShutString
import Derived.ChangeOld
import Derived.Below
import Derived.SizedLaws
import Derived.Carry

set_option linter.unusedVariables false
set_option linter.unusedSectionVars false
set_option linter.unusedSimpArgs false
set_option maxRecDepth 10000
namespace Go.Proofs.Ytbhnafdmilfobaa.Am
open Go

/-- Is it a right number? -/
def okN (m e : Int) : Bool := decide (m = 0 ∧ e = 0 ∨ m.tmod 10 ≠ 0 ∧ -999999999 ≤ m ∧ m ≤ 999999999 ∧ -18 ≤ e ∧ e ≤ 9)
theorem okN_iff {m e : Int} : okN m e = true ↔ (m = 0 ∧ e = 0 ∨ m.tmod 10 ≠ 0 ∧ -999999999 ≤ m ∧ m ≤ 999999999 ∧ -18 ≤ e ∧ e ≤ 9) := by unfold okN; exact decide_eq_true_iff
theorem okN_rng {m e : Int} (h : okN m e = true) : -999999999 ≤ m ∧ m ≤ 999999999 ∧ -18 ≤ e ∧ e ≤ 9 := by
  rcases okN_iff.1 h with h | h <;> omega
theorem okN_if (m e : Int) (b : Bool) (h : b = true ↔ (m = 0 ∧ e = 0 ∨ m.tmod 10 ≠ 0 ∧ -999999999 ≤ m ∧ m ≤ 999999999 ∧ -18 ≤ e ∧ e ≤ 9)) : b = okN m e := Bool.eq_iff_iff.2 (h.trans okN_iff.symm)
theorem numValid_ev (m e : Int) : Rn (fun k => Fnum_Valid k m e) (okN m e) := by
  refine Rn.up (f := fun k => Fnum_Valid k m e) (Rn.eq 0 fun k _ => ?_)
  show bnum_Valid k m e = _
  unfold bnum_Valid
  have t : m = 0 → m.tmod 10 = 0 := fun h => by rw [h]; rfl
  simp only [beq_iff_eq, decide_eq_true_eq, bne_iff_ne, ne_eq]
  repeat' split
  all_goals refine congrArg some (okN_if m e _ ?_)
  all_goals simp only [beq_iff_eq, decide_eq_true_eq, Bool.false_eq_true, false_iff]
  all_goals grind
theorem refValid_ev (m e : Int) : Rn (fun k => Fshuntref03_Valid k m e) (okN m e) := by
  refine Rn.up (f := fun k => Fshuntref03_Valid k m e) (Rn.eq 0 fun k _ => ?_)
  show bshuntref03_Valid k m e = _
  unfold bshuntref03_Valid
  have t : m = 0 → m.tmod 10 = 0 := fun h => by rw [h]; rfl
  simp only [beq_iff_eq, decide_eq_true_eq, bne_iff_ne, ne_eq, beq_eq_false_iff_ne]
  repeat' split
  all_goals refine congrArg some (okN_if m e _ ?_)
  all_goals simp only [beq_iff_eq, decide_eq_true_eq, Bool.false_eq_true, false_iff]
  all_goals grind

/-- The number's value. -/
def numQ (m e : Int) : Rat := if e < 0 then Rat.divInt m ((10 ^ (-e).toNat : Nat) : Int) else Rat.divInt (((10 ^ e.toNat : Nat) : Int) * m) 1
theorem nm_len {s : Bool} {l : List Int} {x : Int} (h : Nm W s l x) (n : Nat) (hx : (x.natAbs : Int) < W ^ n) : l.length ≤ n :=
  (h.c.len_le (B := W) (by decide) n).2 (by rw [h.abs (B := W) (by decide)]; exact hx)
theorem W2 : (W ^ 2 : Int) = 18446744073709551616 := by decide
theorem Rl.t {α : Type} {c : Prop} [Decidable c] {f g : Nat → Nat → Option α} {r : α} (h : c) (hf : Rl f r) : Rl (fun k n => if c then f k n else g k n) r := by
  simpa only [if_pos h] using hf
theorem Rl.f {α : Type} {c : Prop} [Decidable c] {f g : Nat → Nat → Option α} {r : α} (h : ¬ c) (hg : Rl g r) : Rl (fun k n => if c then f k n else g k n) r := by
  simpa only [if_neg h] using hg
theorem Rl.at {α β : Type} {o : Option α} {g : Nat → Nat → α → Option β} {x : α} {r : β} (h : o = some x) (hg : Rl (fun k n => g k n x) r) : Rl (fun k n => Option.bind o (g k n)) r := by
  simpa only [h, Option.bind_some] using hg
theorem ten_loop (c : Int) (hc : c ≤ 20) {t : Bool} {u : List Int} (nu : Nm W t u 10) (hu : u.length ≤ 2) : ∀ (n : Nat) (i : Int) (s : Bool) (z : List Int) (p : Int), 0 ≤ i → i + n = c → Nm W s z p → (z.length : Int) ≤ 100 + 2 * i →
    ∃ s' z', Rl (fun k m => Lbig_Ten_0 k m c i s z t u) (s', z', t, u) ∧ Nm W s' z' (p * ((10 ^ n : Nat) : Int)) ∧ z'.length ≤ 200 := by
  intro n
  induction n with
  | zero =>
    intro i s z p h0 hi nz hz
    refine ⟨s, z, Rl.up (f := fun k m => Lbig_Ten_0 k m c i s z t u) (Rl.of 0 fun k m _ => ?_), nz.cast (by simp), by omega⟩
    show Lbig_Ten_0s k (Lbig_Ten_0 k m) c i s z t u = _
    unfold Lbig_Ten_0s
    exact if_neg (by simp; omega)
  | succ n ih =>
    intro i s z p h0 hi nz hz
    obtain ⟨s1, p1, a1, a2, a3⟩ := Mulj_ev s t z u nz nu (by omega) (by omega)
    obtain ⟨s', z', b1, b2, b3⟩ := ih (i + 1) s1 p1 (p * 10) (by omega) (by omega) a2 (by omega)
    refine ⟨s', z', Rl.up (f := fun k m => Lbig_Ten_0 k m c i s z t u) ?_, b2.cast (by rw [Nat.pow_succ]; grind), b3⟩
    show Rl (fun k m => Lbig_Ten_0s k (Lbig_Ten_0 k m) c i s z t u) _
    unfold Lbig_Ten_0s
    refine Rl.t (decide_eq_true (by omega)) (Rl.bind a1 ?_)
    rw [wrap_i64 (by omega)]
    exact b1
theorem Ten_ev (c : Int) (h : 0 ≤ c ∧ c ≤ 18) : ∃ s z, Rn (fun k => Fbig_Ten k c) (s, z) ∧ Nm W s z ((10 ^ c.toNat : Nat) : Int) ∧ z.length ≤ 2 := by
  obtain ⟨l, a1, a2, a3⟩ := NewInt_ev 1 (by omega)
  obtain ⟨u, b1, b2, b3⟩ := NewInt_ev 10 (by omega)
  obtain ⟨s, z, c1, c2, c3⟩ := ten_loop c (by omega) b2 b3 c.toNat 0 _ l 1 (by omega) (by omega) a2 (by omega)
  have hp : (10 ^ c.toNat : Nat) ≤ 10 ^ 18 := Nat.pow_le_pow_right (by decide) (by omega)
  have e18 : (10 ^ 18 : Nat) = 1000000000000000000 := by decide
  refine ⟨s, z, Rn.up (f := fun k => Fbig_Ten k c) (Rn.bind a1 (Rn.bind b1 (Rn.bind c1.diag (Rn.pure _)))), c2.cast (by simp), nm_len c2 2 (by rw [W2, Int.one_mul, Int.natAbs_natCast]; omega)⟩
theorem pow10_pos (n : Nat) : (0 : Int) < ((10 ^ n : Nat) : Int) := by have := Nat.pow_pos (a := 10) (n := n) (by decide); omega
theorem frac10_ev {m e : Int} (h : okN m e = true) : ∃ s p t r, Rn (fun k => Fnum_frac k m e) (s, p, t, r) ∧ Fr s p t r (numQ m e) ∧ p.length ≤ 2 ∧ r.length ≤ 2 := by
  have hr := okN_rng h
  have hw : IntKind.i64.wrap (0 - e) = -e := by rw [wrap_i64 (by omega)]; omega
  have hm : (if e < 0 then -e else e) = max e (-e) := by omega
  obtain ⟨s1, z1, a1, a2, a3⟩ := Ten_ev (max e (-e)) (by omega)
  obtain ⟨l, b1, b2, b3⟩ := NewInt_ev m (by omega)
  have hpos := pow10_pos (max e (-e)).toNat
  by_cases he : e < 0
  · have e1 : max e (-e) = -e := by omega
    rw [e1] at a1 a2 hpos
    obtain ⟨s, p, t, r, c1, c2, c3, c4⟩ := Frac_ev _ _ l z1 b2 a2 (by omega) (by omega) (by omega)
    refine ⟨s, p, t, r, Rn.up (f := fun k => Fnum_frac k m e) ?_, c2.cast (by rw [numQ, if_pos he]), by omega, by omega⟩
    show Rn (fun k => bnum_frac k m e) _
    unfold bnum_frac
    rw [hw, e1]
    refine Rn.bind a1 (Rn.t (decide_eq_true (by omega)) (Rn.bind b1 (Rn.bind c1 (Rn.pure _))))
  · have e1 : max e (-e) = e := by omega
    rw [e1] at a1 a2 hpos
    obtain ⟨s2, p2, d1, d2, d3⟩ := Mulj_ev s1 _ z1 l a2 b2 (by omega) (by omega)
    obtain ⟨o, o1, o2, o3⟩ := NewInt_ev 1 (by omega)
    have hp : (10 ^ e.toNat : Nat) ≤ 10 ^ 9 := Nat.pow_le_pow_right (by decide) (by omega)
    have e9 : (10 ^ 9 : Nat) = 1000000000 := by decide
    have hlen : p2.length ≤ 2 := nm_len d2 2 (by
      rw [W2, Int.natAbs_mul]
      have h1 : ((10 ^ e.toNat : Nat) : Int).natAbs ≤ 1000000000 := by omega
      have h2 : m.natAbs ≤ 1000000000 := by omega
      have := Nat.mul_le_mul h1 h2
      omega)
    obtain ⟨s, p, t, r, c1, c2, c3, c4⟩ := Frac_ev _ _ p2 o d2 o2 (by omega) (by omega) (by omega)
    refine ⟨s, p, t, r, Rn.up (f := fun k => Fnum_frac k m e) ?_, c2.cast (by rw [numQ, if_neg he]), by omega, by omega⟩
    show Rn (fun k => bnum_frac k m e) _
    unfold bnum_frac
    rw [hw, e1]
    refine Rn.bind a1 (Rn.f (by rw [decide_eq_true_eq]; omega) (Rn.bind b1 (Rn.bind d1 (Rn.bind o1 (Rn.bind c1 (Rn.pure _))))))
theorem Value_ev {m e : Int} (h : okN m e = true) : ∃ s p t r, Rn (fun k => Fnum_Value k m e) (s, p, t, r, 0) ∧ Fr s p t r (numQ m e) ∧ p.length ≤ 2 ∧ r.length ≤ 2 := by
  obtain ⟨s, p, t, r, a1, a2, a3, a4⟩ := frac10_ev h
  refine ⟨s, p, t, r, Rn.up (f := fun k => Fnum_Value k m e) ?_, a2, a3, a4⟩
  show Rn (fun k => bnum_Value k m e) _
  unfold bnum_Value
  have hv := numValid_ev m e
  rw [h] at hv
  exact Rn.bind hv (Rn.f (by simp) (Rn.bind a1 (Rn.bind (wFrac_ev a2 (show p.length ≤ 1000000 by omega) (show r.length ≤ 1000000 by omega)) (Rn.pure _))))
theorem wRat_fr {n0 d0 : Bool} {n1 d1 : List Int} {q : Rat} (h : Fr n0 n1 d0 d1 q) (l1 : n1.length ≤ 1000000) (l3 : d1.length ≤ 1000000) :
    ∃ s p t r, Rn (fun k => Fwide_Rat k n0 n1 d0 d1) (s, p, t, r) ∧ Fr s p t r q ∧ p.length ≤ n1.length ∧ r.length ≤ d1.length := by
  have hd := Rat.den_pos' q
  obtain ⟨s, p, t, r, c1, c2, c3, c4⟩ := Frac_ev n0 d0 n1 d1 h.1 h.2 l1 l3 (by omega)
  exact ⟨s, p, t, r, Rn.up (f := fun k => Fwide_Rat k n0 n1 d0 d1) (Rn.bind (Take_nm h.1 (by omega)) (Rn.bind (Take_nm h.2 (by omega)) (Rn.bind c1 (Rn.pure _)))), c2.cast (Rat.num_divInt_den q), c3, c4⟩
theorem wvalue_ev {m e : Int} (h : okN m e = true) : ∃ s p t r, Rn (fun k => Fwave_value k m e) (s, p, t, r) ∧ Fr s p t r (numQ m e) ∧ p.length ≤ 2 ∧ r.length ≤ 2 := by
  obtain ⟨s, p, t, r, a1, a2, a3, a4⟩ := Value_ev h
  obtain ⟨s1, p1, t1, r1, b1, b2, b3, b4⟩ := wRat_fr a2 (by omega) (by omega)
  exact ⟨s1, p1, t1, r1, Rn.up (f := fun k => Fwave_value k m e) (Rn.bind a1 (Rn.bind b1 (Rn.pure _))), b2, by omega, by omega⟩
theorem NewRat_ev (n d : Int) (hn : -9223372036854775808 ≤ n ∧ n ≤ 9223372036854775807) (hd : -9223372036854775808 ≤ d ∧ d ≤ 9223372036854775807) (h0 : d ≠ 0) :
    ∃ s p t r, Rn (fun k => Fbig_NewRat k n d) (s, p, t, r) ∧ Fr s p t r (Rat.divInt n d) ∧ p.length ≤ 2 ∧ r.length ≤ 2 := by
  obtain ⟨l, a1, a2, a3⟩ := NewInt_ev n hn
  obtain ⟨m, b1, b2, b3⟩ := NewInt_ev d hd
  obtain ⟨s, p, t, r, c1, c2, c3, c4⟩ := Frac_ev _ _ l m a2 b2 (by omega) (by omega) h0
  exact ⟨s, p, t, r, Rn.up (f := fun k => Fbig_NewRat k n d) (Rn.bind a1 (Rn.bind b1 (Rn.bind c1 (Rn.pure _)))), c2, by omega, by omega⟩
theorem prp_eq (k : Nat) (z0 z2 : Bool) (z1 z3 : List Int) (n0 d0 : Bool) (n1 d1 : List Int) : Fbig_Rat_frac_prp k z0 z1 z2 z3 n0 n1 d0 d1 = Fbig_Rat_frac_xda k false false n0 n1 d0 d1 := by cases k <;> rfl
section
variable {x0 x2 y0 y2 : Bool} {x1 x3 y1 y3 : List Int} {x y : Rat} (hx : Fr x0 x1 x2 x3 x) (hy : Fr y0 y1 y2 y3 y) (l1 : x1.length ≤ 100000) (l3 : x3.length ≤ 100000) (m1 : y1.length ≤ 100000) (m3 : y3.length ≤ 100000)
include hx hy l1 l3 m1 m3
theorem rAddw_ev : ∃ s p t r, Rn (fun k => Fbig_Rat_Add_wqk k x0 x1 x2 x3 y0 y1 y2 y3) (s, p, t, r, y0, y1, y2, y3) ∧ Fr s p t r (x + y) ∧ p.length ≤ max (x1.length + y3.length) (y1.length + x3.length) + 1 ∧ r.length ≤ x3.length + y3.length := by
  have dX := Denom_ev hx (by omega) (by omega)
  have dY := Denom_ev hy (by omega) (by omega)
  obtain ⟨s1, p1, a1, a2, a3⟩ := Mulo_ev false x0 y2 x2 x1 y3 x3 hx.1 hy.2 (by omega) (by omega)
  obtain ⟨s2, p2, b1, b2, b3⟩ := Mulo_ev false y0 x2 y2 y1 x3 y3 hy.1 hx.2 (by omega) (by omega)
  obtain ⟨s3, p3, c1, c2, c3⟩ := Mul1_ev false x2 y2 x3 y3 hx.2 hy.2 (by omega) (by omega)
  obtain ⟨s4, p4, d1, d2, d3⟩ := Add2_ev s1 s2 p1 p2 a2 b2 (by omega) (by omega)
  have hdx := Rat.den_pos' x
  have hdy := Rat.den_pos' y
  have hd := Int.mul_pos hdx hdy
  obtain ⟨s, p, t, r, e1, e2, e3, e4⟩ := frac_ev false false s4 s3 p4 p3 d2 c2 (by omega) (by omega) (by omega)
  have e1' : Rn (fun k => Fbig_Rat_frac_prp k x0 x1 x2 x3 s4 p4 s3 p3) (s, p, t, r, s4, p4, s3, p3) := by simpa only [prp_eq] using e1
  refine ⟨s, p, t, r, Rn.up (f := fun k => Fbig_Rat_Add_wqk k x0 x1 x2 x3 y0 y1 y2 y3) ?_, e2.cast (rat_add x y), by omega, by omega⟩
  exact Rn.bind dY (Rn.bind a1 (Rn.bind dX (Rn.bind b1 (Rn.bind dX (Rn.bind dY (Rn.bind c1 (Rn.bind d1 (Rn.bind e1' (Rn.pure _)))))))))
theorem rMulw_ev : ∃ s p t r, Rn (fun k => Fbig_Rat_Mul_wqk k x0 x1 x2 x3 y0 y1 y2 y3) (s, p, t, r, y0, y1, y2, y3) ∧ Fr s p t r (x * y) ∧ p.length ≤ x1.length + y1.length ∧ r.length ≤ x3.length + y3.length := by
  have dX := Denom_ev hx (by omega) (by omega)
  have dY := Denom_ev hy (by omega) (by omega)
  obtain ⟨s1, p1, a1, a2, a3⟩ := Muli_ev false x0 y0 x2 y2 x1 y1 x3 y3 hx.1 hy.1 (by omega) (by omega)
  obtain ⟨s3, p3, c1, c2, c3⟩ := Mul1_ev false x2 y2 x3 y3 hx.2 hy.2 (by omega) (by omega)
  have hdx := Rat.den_pos' x
  have hdy := Rat.den_pos' y
  have hd := Int.mul_pos hdx hdy
  obtain ⟨s, p, t, r, e1, e2, e3, e4⟩ := frac_ev false false s1 s3 p1 p3 a2 c2 (by omega) (by omega) (by omega)
  have e1' : Rn (fun k => Fbig_Rat_frac_prp k x0 x1 x2 x3 s1 p1 s3 p3) (s, p, t, r, s1, p1, s3, p3) := by simpa only [prp_eq] using e1
  refine ⟨s, p, t, r, Rn.up (f := fun k => Fbig_Rat_Mul_wqk k x0 x1 x2 x3 y0 y1 y2 y3) ?_, e2.cast (rat_mul x y), by omega, by omega⟩
  exact Rn.bind a1 (Rn.bind dX (Rn.bind dY (Rn.bind c1 (Rn.bind e1' (Rn.pure _)))))
end
/-- A fraction on the grid. -/
def gridR (q : Rat) : Int × Int := gridZ (nearI (q * Rat.divInt 1000000000 1).num (q * Rat.divInt 1000000000 1).den)
end Go.Proofs.Ytbhnafdmilfobaa.Am

/- Plain reckoning: which waves are right. -/
set_option linter.unusedVariables false
set_option linter.unusedSectionVars false
set_option linter.unusedSimpArgs false
set_option maxRecDepth 10000
namespace Go.Proofs.Ytbhnafdmilfobaa.Am
open Go

/-- A loop that looks at each place, and leaves at the first that isn't right. -/
theorem scan {A B : Type} (L s : Nat) (F : Nat → Nat → Int → Option (A ⊕ B)) (b : B) (P : A → Prop) (ok : Nat → Prop)
    (hend : Rl (fun k n => F k n (L : Int)) (.inr b))
    (hgo : ∀ i : Nat, s ≤ i → i < L → ok i → ∀ o, Rl (fun k n => F k n ((i : Int) + 1)) o → Rl (fun k n => F k n (i : Int)) o)
    (hno : ∀ i : Nat, s ≤ i → i < L → ¬ ok i → ∃ a, P a ∧ Rl (fun k n => F k n (i : Int)) (.inl a)) :
    ∀ d i : Nat, s ≤ i → i + d = L → ∃ o, Rl (fun k n => F k n (i : Int)) o ∧ ((∀ j, i ≤ j → j < L → ok j) ∧ o = .inr b ∨ (¬ ∀ j, i ≤ j → j < L → ok j) ∧ ∃ a, P a ∧ o = .inl a) := by
  intro d
  induction d with
  | zero =>
    intro i hs hi
    obtain rfl : i = L := by omega
    exact ⟨_, hend, .inl ⟨fun j h1 h2 => absurd h2 (by omega), rfl⟩⟩
  | succ d ih =>
    intro i hs hi
    by_cases h : ok i
    · obtain ⟨o, h1, h2⟩ := ih (i + 1) (by omega) (by omega)
      refine ⟨o, hgo i hs (by omega) h o h1, ?_⟩
      have e : (∀ j, i + 1 ≤ j → j < L → ok j) ↔ (∀ j, i ≤ j → j < L → ok j) := ⟨fun g j j1 j2 => by
        rcases Nat.lt_or_ge i j with k | k
        · exact g j k j2
        · exact (show i = j by omega) ▸ h, fun g j j1 j2 => g j (by omega) j2⟩
      rwa [e] at h2
    · obtain ⟨a, h1, h2⟩ := hno i hs (by omega) h
      exact ⟨_, h2, .inr ⟨fun g => h (g i (Nat.le_refl _) (by omega)), a, h1, rfl⟩⟩
theorem getD_some {α : Type} {l : List α} {i : Nat} (d : α) (h : i < l.length) : l[i]? = some (l.getD i d) := by
  rw [List.getElem?_eq_getElem h]; simp [List.getD, h]
/-- A right wave. -/
structure OkW (w0 : Int) (w1 : List (Int × Int)) (w2 : List Int) : Prop where
  vals : ∀ j, 0 ≤ j → j < w1.length → okN (w1.getD j (0, 0)).1 (w1.getD j (0, 0)).2 = true
  steps : ∀ j, 0 ≤ j → j < w2.length → 0 ≤ w2.getD j 0 ∧ w2.getD j 0 ≤ 1000000000
  kind : w0 = 1 ∧ w1.length = 1 ∧ w2.length = 0 ∨ w0 = 2 ∧ w1.length = 2 ∧ w2.length = 5 ∧ 1 ≤ w2.getD 4 0 ∧ w2.getD 1 0 + w2.getD 2 0 + w2.getD 3 0 ≤ w2.getD 4 0 ∨
    w0 = 3 ∧ w1.length = w2.length ∧ 1 ≤ w1.length ∧ w1.length ≤ 16 ∧ (∀ j, 1 ≤ j → j < w2.length → w2.getD (j - 1) 0 < w2.getD j 0) ∨ w0 = 4 ∧ 1 ≤ w1.length ∧ w1.length ≤ 16 ∧ w2.length = 0
noncomputable def okW (w0 : Int) (w1 : List (Int × Int)) (w2 : List Int) : Bool := @decide (OkW w0 w1 w2) (Classical.propDecidable _)
theorem okW_iff {w0 : Int} {w1 : List (Int × Int)} {w2 : List Int} : okW w0 w1 w2 = true ↔ OkW w0 w1 w2 := @decide_eq_true_iff _ (Classical.propDecidable _)
theorem okW_f {w0 : Int} {w1 : List (Int × Int)} {w2 : List Int} : okW w0 w1 w2 = false ↔ ¬ OkW w0 w1 w2 := @decide_eq_false_iff_not _ (Classical.propDecidable _)
section
variable (w0 : Int) (w1 : List (Int × Int)) (w2 : List Int) (h1 : w1.length ≤ 1000000000000000000) (h2 : w2.length ≤ 1000000000000000000)
include h1 h2
theorem wvalid0 : ∃ o, Rl (fun k n => Lwave_Valid_0 k n w1 w1.length 0 w0 w1 w2) o ∧ ((∀ j, 0 ≤ j → j < w1.length → okN (w1.getD j (0, 0)).1 (w1.getD j (0, 0)).2 = true) ∧ o = .inr (w0, w1, w2) ∨ (¬ ∀ j, 0 ≤ j → j < w1.length → okN (w1.getD j (0, 0)).1 (w1.getD j (0, 0)).2 = true) ∧ ∃ a : Bool × Int × List (Int × Int) × List Int × Int × Int, a.1 = false ∧ o = .inl a) := by
  refine scan w1.length 0 (fun k n i => Lwave_Valid_0 k n w1 w1.length i w0 w1 w2) (w0, w1, w2) (fun a => a.1 = false) (fun j => okN (w1.getD j (0, 0)).1 (w1.getD j (0, 0)).2 = true) ?_ ?_ ?_ w1.length 0 (by omega) (by omega)
  · refine Rl.up (f := fun k n => Lwave_Valid_0 k n w1 w1.length w1.length w0 w1 w2) (Rl.of 0 fun k n _ => ?_)
    show Lwave_Valid_0s k (Lwave_Valid_0 k n) _ _ _ _ _ _ = _
    unfold Lwave_Valid_0s
    exact if_neg (by simp)
  · intro i hs hi hok o ho
    refine Rl.up (f := fun k n => Lwave_Valid_0 k n w1 w1.length i w0 w1 w2) ?_
    show Rl (fun k n => Lwave_Valid_0s k (Lwave_Valid_0 k n) _ _ _ _ _ _) _
    unfold Lwave_Valid_0s
    refine Rl.t (decide_eq_true (by omega)) (Rl.t (by omega) (Rl.at (getD_some (0, 0) (by omega)) (Rl.bind (numValid_ev _ _) (Rl.f (by rw [Int.toNat_natCast, hok]; decide) ?_))))
    rw [wrap_i64 (by omega)]
    exact ho
  · intro i hs hi hok
    refine ⟨(false, w0, w1, w2, (w1.getD i (0, 0)).1, (w1.getD i (0, 0)).2), rfl, Rl.up (f := fun k n => Lwave_Valid_0 k n w1 w1.length i w0 w1 w2) ?_⟩
    show Rl (fun k n => Lwave_Valid_0s k (Lwave_Valid_0 k n) _ _ _ _ _ _) _
    unfold Lwave_Valid_0s
    refine Rl.t (decide_eq_true (by omega)) (Rl.t (by omega) (Rl.at (getD_some (0, 0) (by omega)) (Rl.bind (numValid_ev _ _) (Rl.t (by rw [Int.toNat_natCast, Bool.eq_false_iff.2 hok]; rfl) (Rl.pure _)))))
theorem wvalid2 : ∃ o, Rl (fun k n => Lwave_Valid_2 k n w2 w2.length 0 w0 w1 w2) o ∧ ((∀ j, 0 ≤ j → j < w2.length → 0 ≤ w2.getD j 0 ∧ w2.getD j 0 ≤ 1000000000) ∧ o = .inr (w0, w1, w2) ∨ (¬ ∀ j, 0 ≤ j → j < w2.length → 0 ≤ w2.getD j 0 ∧ w2.getD j 0 ≤ 1000000000) ∧ ∃ a : Bool × Int × List (Int × Int) × List Int, a.1 = false ∧ o = .inl a) := by
  refine scan w2.length 0 (fun k n i => Lwave_Valid_2 k n w2 w2.length i w0 w1 w2) (w0, w1, w2) (fun a => a.1 = false) (fun j => 0 ≤ w2.getD j 0 ∧ w2.getD j 0 ≤ 1000000000) ?_ ?_ ?_ w2.length 0 (by omega) (by omega)
  · refine Rl.up (f := fun k n => Lwave_Valid_2 k n w2 w2.length w2.length w0 w1 w2) (Rl.of 0 fun k n _ => ?_)
    show Lwave_Valid_2s k (Lwave_Valid_2 k n) _ _ _ _ _ _ = _
    unfold Lwave_Valid_2s
    exact if_neg (by simp)
  · intro i hs hi hok o ho
    refine Rl.up (f := fun k n => Lwave_Valid_2 k n w2 w2.length i w0 w1 w2) ?_
    show Rl (fun k n => Lwave_Valid_2s k (Lwave_Valid_2 k n) _ _ _ _ _ _) _
    unfold Lwave_Valid_2s
    refine Rl.t (decide_eq_true (by omega)) (Rl.t (by omega) (Rl.at (getD_some 0 (by omega)) (Rl.t (decide_eq_false (by rw [Int.toNat_natCast]; omega)) (Rl.f (by rw [decide_eq_true_eq, Int.toNat_natCast]; omega) ?_))))
    rw [wrap_i64 (by omega)]
    exact ho
  · intro i hs hi hok
    refine ⟨(false, w0, w1, w2), rfl, Rl.up (f := fun k n => Lwave_Valid_2 k n w2 w2.length i w0 w1 w2) ?_⟩
    show Rl (fun k n => Lwave_Valid_2s k (Lwave_Valid_2 k n) _ _ _ _ _ _) _
    unfold Lwave_Valid_2s
    refine Rl.t (decide_eq_true (by omega)) (Rl.t (by omega) (Rl.at (getD_some 0 (by omega)) ?_))
    rw [Int.toNat_natCast]
    by_cases h0 : w2.getD i 0 < 0
    · exact Rl.f (by rw [decide_eq_false_iff_not]; omega) (Rl.pure _)
    · exact Rl.t (decide_eq_false h0) (Rl.t (decide_eq_true (by omega)) (Rl.pure _))
theorem wvalid5 (hlen : 1 ≤ w2.length) : ∃ o, Rl (fun k n => Lwave_Valid_5 k n 1 w0 w1 w2) o ∧ ((∀ j, 1 ≤ j → j < w2.length → w2.getD (j - 1) 0 < w2.getD j 0) ∧ o = .inr (w0, w1, w2) ∨ (¬ ∀ j, 1 ≤ j → j < w2.length → w2.getD (j - 1) 0 < w2.getD j 0) ∧ ∃ a : Bool × Int × List (Int × Int) × List Int, a.1 = false ∧ o = .inl a) := by
  refine scan w2.length 1 (fun k n i => Lwave_Valid_5 k n i w0 w1 w2) (w0, w1, w2) (fun a => a.1 = false) (fun j => w2.getD (j - 1) 0 < w2.getD j 0) ?_ ?_ ?_ (w2.length - 1) 1 (by omega) (by omega)
  · refine Rl.up (f := fun k n => Lwave_Valid_5 k n w2.length w0 w1 w2) (Rl.of 0 fun k n _ => ?_)
    show Lwave_Valid_5s k (Lwave_Valid_5 k n) _ _ _ _ = _
    unfold Lwave_Valid_5s
    exact if_neg (by simp)
  · intro i hs hi hok o ho
    refine Rl.up (f := fun k n => Lwave_Valid_5 k n i w0 w1 w2) ?_
    show Rl (fun k n => Lwave_Valid_5s k (Lwave_Valid_5 k n) _ _ _ _) _
    unfold Lwave_Valid_5s
    have e1 : (IntKind.i64.wrap ((i : Int) - 1)) = ((i - 1 : Nat) : Int) := by rw [wrap_i64 (by omega)]; omega
    rw [e1]
    refine Rl.t (decide_eq_true (by omega)) (Rl.t (by omega) (Rl.at (getD_some 0 (by omega)) (Rl.t (by omega) (Rl.at (getD_some 0 (by omega)) (Rl.f (by rw [decide_eq_true_eq, Int.toNat_natCast, Int.toNat_natCast]; omega) ?_)))))
    rw [wrap_i64 (by omega)]
    exact ho
  · intro i hs hi hok
    refine ⟨(false, w0, w1, w2), rfl, Rl.up (f := fun k n => Lwave_Valid_5 k n i w0 w1 w2) ?_⟩
    show Rl (fun k n => Lwave_Valid_5s k (Lwave_Valid_5 k n) _ _ _ _) _
    unfold Lwave_Valid_5s
    have e1 : (IntKind.i64.wrap ((i : Int) - 1)) = ((i - 1 : Nat) : Int) := by rw [wrap_i64 (by omega)]; omega
    rw [e1]
    exact Rl.t (decide_eq_true (by omega)) (Rl.t (by omega) (Rl.at (getD_some 0 (by omega)) (Rl.t (by omega) (Rl.at (getD_some 0 (by omega)) (Rl.t (decide_eq_true (by rw [Int.toNat_natCast, Int.toNat_natCast]; omega)) (Rl.pure _))))))
theorem rvalid0 : ∃ o, Rl (fun k n => Lshuntref04_Valid_0 k n 0 w0 w1 w2) o ∧ ((∀ j, 0 ≤ j → j < w1.length → okN (w1.getD j (0, 0)).1 (w1.getD j (0, 0)).2 = true) ∧ o = .inr (w0, w1, w2) ∨ (¬ ∀ j, 0 ≤ j → j < w1.length → okN (w1.getD j (0, 0)).1 (w1.getD j (0, 0)).2 = true) ∧ ∃ a : Bool × Int × List (Int × Int) × List Int, a.1 = false ∧ o = .inl a) := by
  refine scan w1.length 0 (fun k n i => Lshuntref04_Valid_0 k n i w0 w1 w2) (w0, w1, w2) (fun a => a.1 = false) (fun j => okN (w1.getD j (0, 0)).1 (w1.getD j (0, 0)).2 = true) ?_ ?_ ?_ w1.length 0 (by omega) (by omega)
  · refine Rl.up (f := fun k n => Lshuntref04_Valid_0 k n w1.length w0 w1 w2) (Rl.of 0 fun k n _ => ?_)
    show Lshuntref04_Valid_0s k (Lshuntref04_Valid_0 k n) _ _ _ _ = _
    unfold Lshuntref04_Valid_0s
    exact if_neg (by simp)
  · intro i hs hi hok o ho
    refine Rl.up (f := fun k n => Lshuntref04_Valid_0 k n i w0 w1 w2) ?_
    show Rl (fun k n => Lshuntref04_Valid_0s k (Lshuntref04_Valid_0 k n) _ _ _ _) _
    unfold Lshuntref04_Valid_0s
    refine Rl.t (decide_eq_true (by omega)) (Rl.t (by omega) (Rl.at (getD_some (0, 0) (by omega)) (Rl.bind (refValid_ev _ _) (Rl.f (by rw [Int.toNat_natCast, hok]; decide) ?_))))
    rw [wrap_i64 (by omega)]
    exact ho
  · intro i hs hi hok
    refine ⟨(false, w0, w1, w2), rfl, Rl.up (f := fun k n => Lshuntref04_Valid_0 k n i w0 w1 w2) ?_⟩
    show Rl (fun k n => Lshuntref04_Valid_0s k (Lshuntref04_Valid_0 k n) _ _ _ _) _
    unfold Lshuntref04_Valid_0s
    refine Rl.t (decide_eq_true (by omega)) (Rl.t (by omega) (Rl.at (getD_some (0, 0) (by omega)) (Rl.bind (refValid_ev _ _) (Rl.t (by rw [Int.toNat_natCast, Bool.eq_false_iff.2 hok]; rfl) (Rl.pure _)))))
theorem rvalid2 : ∃ o, Rl (fun k n => Lshuntref04_Valid_2 k n 0 w0 w1 w2) o ∧ ((∀ j, 0 ≤ j → j < w2.length → 0 ≤ w2.getD j 0 ∧ w2.getD j 0 ≤ 1000000000) ∧ o = .inr (w0, w1, w2) ∨ (¬ ∀ j, 0 ≤ j → j < w2.length → 0 ≤ w2.getD j 0 ∧ w2.getD j 0 ≤ 1000000000) ∧ ∃ a : Bool × Int × List (Int × Int) × List Int, a.1 = false ∧ o = .inl a) := by
  refine scan w2.length 0 (fun k n i => Lshuntref04_Valid_2 k n i w0 w1 w2) (w0, w1, w2) (fun a => a.1 = false) (fun j => 0 ≤ w2.getD j 0 ∧ w2.getD j 0 ≤ 1000000000) ?_ ?_ ?_ w2.length 0 (by omega) (by omega)
  · refine Rl.up (f := fun k n => Lshuntref04_Valid_2 k n w2.length w0 w1 w2) (Rl.of 0 fun k n _ => ?_)
    show Lshuntref04_Valid_2s k (Lshuntref04_Valid_2 k n) _ _ _ _ = _
    unfold Lshuntref04_Valid_2s
    exact if_neg (by simp)
  · intro i hs hi hok o ho
    refine Rl.up (f := fun k n => Lshuntref04_Valid_2 k n i w0 w1 w2) ?_
    show Rl (fun k n => Lshuntref04_Valid_2s k (Lshuntref04_Valid_2 k n) _ _ _ _) _
    unfold Lshuntref04_Valid_2s
    refine Rl.t (decide_eq_true (by omega)) (Rl.t (by omega) (Rl.at (getD_some 0 (by omega)) (Rl.t (decide_eq_false (by rw [Int.toNat_natCast]; omega)) (Rl.t (by omega) (Rl.at (getD_some 0 (by omega)) (Rl.f (by rw [decide_eq_true_eq, Int.toNat_natCast]; omega) ?_))))))
    rw [wrap_i64 (by omega)]
    exact ho
  · intro i hs hi hok
    refine ⟨(false, w0, w1, w2), rfl, Rl.up (f := fun k n => Lshuntref04_Valid_2 k n i w0 w1 w2) ?_⟩
    show Rl (fun k n => Lshuntref04_Valid_2s k (Lshuntref04_Valid_2 k n) _ _ _ _) _
    unfold Lshuntref04_Valid_2s
    refine Rl.t (decide_eq_true (by omega)) (Rl.t (by omega) (Rl.at (getD_some 0 (by omega)) ?_))
    rw [Int.toNat_natCast]
    by_cases h0 : w2.getD i 0 < 0
    · exact Rl.f (by rw [decide_eq_false_iff_not]; omega) (Rl.pure _)
    · exact Rl.t (decide_eq_false h0) (Rl.t (by omega) (Rl.at (getD_some 0 (by omega)) (Rl.t (decide_eq_true (by omega)) (Rl.pure _))))
end
theorem rising_ev (w2 : List Int) (h2 : w2.length ≤ 1000000000000000000) (hlen : 1 ≤ w2.length) : ∃ b, Rn (fun k => Fshuntref04_rising k w2) b ∧ (b = true ↔ ∀ j, 1 ≤ j → j < w2.length → w2.getD (j - 1) 0 < w2.getD j 0) := by
  obtain ⟨o, ho, h⟩ : ∃ o, Rl (fun k n => Lshuntref04_rising_0 k n w2 1) o ∧ ((∀ j, 1 ≤ j → j < w2.length → w2.getD (j - 1) 0 < w2.getD j 0) ∧ o = .inr () ∨ (¬ ∀ j, 1 ≤ j → j < w2.length → w2.getD (j - 1) 0 < w2.getD j 0) ∧ ∃ a : Bool, a = false ∧ o = .inl a) := by
    refine scan w2.length 1 (fun k n i => Lshuntref04_rising_0 k n w2 i) () (fun a => a = false) (fun j => w2.getD (j - 1) 0 < w2.getD j 0) ?_ ?_ ?_ (w2.length - 1) 1 (by omega) (by omega)
    · refine Rl.up (f := fun k n => Lshuntref04_rising_0 k n w2 w2.length) (Rl.of 0 fun k n _ => ?_)
      show Lshuntref04_rising_0s k (Lshuntref04_rising_0 k n) _ _ = _
      unfold Lshuntref04_rising_0s
      exact if_neg (by simp)
    · intro i hs hi hok o ho
      refine Rl.up (f := fun k n => Lshuntref04_rising_0 k n w2 i) ?_
      show Rl (fun k n => Lshuntref04_rising_0s k (Lshuntref04_rising_0 k n) _ _) _
      unfold Lshuntref04_rising_0s
      have e1 : (IntKind.i64.wrap ((i : Int) - 1)) = ((i - 1 : Nat) : Int) := by rw [wrap_i64 (by omega)]; omega
      rw [e1]
      refine Rl.t (decide_eq_true (by omega)) (Rl.t (by omega) (Rl.at (getD_some 0 (by omega)) (Rl.t (by omega) (Rl.at (getD_some 0 (by omega)) (Rl.f (by rw [decide_eq_true_eq, Int.toNat_natCast, Int.toNat_natCast]; omega) ?_)))))
      rw [wrap_i64 (by omega)]
      exact ho
    · intro i hs hi hok
      refine ⟨false, rfl, Rl.up (f := fun k n => Lshuntref04_rising_0 k n w2 i) ?_⟩
      show Rl (fun k n => Lshuntref04_rising_0s k (Lshuntref04_rising_0 k n) _ _) _
      unfold Lshuntref04_rising_0s
      have e1 : (IntKind.i64.wrap ((i : Int) - 1)) = ((i - 1 : Nat) : Int) := by rw [wrap_i64 (by omega)]; omega
      rw [e1]
      exact Rl.t (decide_eq_true (by omega)) (Rl.t (by omega) (Rl.at (getD_some 0 (by omega)) (Rl.t (by omega) (Rl.at (getD_some 0 (by omega)) (Rl.t (decide_eq_true (by rw [Int.toNat_natCast, Int.toNat_natCast]; omega)) (Rl.pure _))))))
  rcases h with ⟨h, rfl⟩ | ⟨h, a, ha, rfl⟩
  · exact ⟨true, Rn.up (f := fun k => Fshuntref04_rising k w2) (Rn.bind ho.diag (Rn.pure _)), by simp only [true_iff]; exact h⟩
  · subst ha
    exact ⟨false, Rn.up (f := fun k => Fshuntref04_rising k w2) (Rn.bind ho.diag (Rn.pure _)), by simp only [Bool.false_eq_true, false_iff]; exact h⟩
end Go.Proofs.Ytbhnafdmilfobaa.Am

/- Plain reckoning: which waves are right, the whole. -/
set_option linter.unusedVariables false
set_option linter.unusedSectionVars false
set_option linter.unusedSimpArgs false
set_option maxRecDepth 10000
namespace Go.Proofs.Ytbhnafdmilfobaa.Am
open Go

theorem okW_eq {w0 : Int} {w1 : List (Int × Int)} {w2 : List Int} {b : Bool} (h : b = true ↔ OkW w0 w1 w2) : b = okW w0 w1 w2 := Bool.eq_iff_iff.2 (h.trans okW_iff.symm)
section
variable (w0 : Int) (w1 : List (Int × Int)) (w2 : List Int) (h1 : w1.length ≤ 1000000000000000000) (h2 : w2.length ≤ 1000000000000000000)
include h1 h2
theorem waveValid_ev : Rn (fun k => Fwave_Valid k w0 w1 w2) (okW w0 w1 w2) := by
  refine Rn.up (f := fun k => Fwave_Valid k w0 w1 w2) ?_
  show Rn (fun k => bwave_Valid k w0 w1 w2) _
  unfold bwave_Valid
  obtain ⟨o, ho, hv⟩ := wvalid0 w0 w1 w2 h1 h2
  refine Rn.bind ho.diag ?_
  rcases hv with ⟨hv, rfl⟩ | ⟨hv, a, ha, rfl⟩
  case inr =>
    have : okW w0 w1 w2 = false := okW_f.2 fun h => hv h.vals
    rw [this, ← ha]
    exact Rn.pure _
  show Rn (fun k => Option.bind (Lwave_Valid_2 k k w2 w2.length 0 w0 w1 w2) _) _
  obtain ⟨o, ho, hs⟩ := wvalid2 w0 w1 w2 h1 h2
  refine Rn.bind ho.diag ?_
  rcases hs with ⟨hs, rfl⟩ | ⟨hs, a, ha, rfl⟩
  case inr =>
    have : okW w0 w1 w2 = false := okW_f.2 fun h => hs h.steps
    rw [this, ← ha]
    exact Rn.pure _
  have hk : OkW w0 w1 w2 ↔ _ := ⟨fun h => h.kind, fun h => ⟨hv, hs, h⟩⟩
  by_cases k1 : w0 = 1
  · refine Rn.t (by simp [k1]) (Rn.eq 0 fun k _ => ?_)
    dsimp only
    repeat' split
    all_goals refine congrArg some (okW_eq (Iff.trans ?_ hk.symm))
    all_goals simp only [beq_iff_eq, decide_eq_true_eq, Bool.false_eq_true, false_iff, Bool.not_eq_true] at *
    all_goals omega
  refine Rn.f (by simpa using k1) ?_
  by_cases k2 : w0 = 2
  · refine Rn.t (by simp [k2]) ?_
    by_cases l1 : w1.length = 2
    · refine Rn.t (by simp [l1]) ?_
      by_cases l2 : w2.length = 5
      · refine Rn.t (by simp [l2]) ?_
        refine Rn.at (getD_some 0 (by show 4 < w2.length; omega)) ?_
        by_cases l3 : w2.getD 4 0 ≥ 1
        · refine Rn.t (decide_eq_true l3) (Rn.at (getD_some 0 (by show 1 < w2.length; omega)) (Rn.at (getD_some 0 (by show 2 < w2.length; omega)) (Rn.at (getD_some 0 (by show 3 < w2.length; omega)) (Rn.at (getD_some 0 (by show 4 < w2.length; omega)) (Rn.const (congrArg some (okW_eq (Iff.trans ?_ hk.symm))))))))
          have s1 := hs 1 (by omega) (by omega)
          have s2 := hs 2 (by omega) (by omega)
          have s3 := hs 3 (by omega) (by omega)
          dsimp only
          rw [wrap_i64 (x := w2.getD 1 0 + w2.getD 2 0) (by omega), wrap_i64 (by omega), decide_eq_true_eq]
          constructor
          · intro h; exact .inr (.inl ⟨k2, l1, l2, l3, h⟩)
          · rintro (⟨a, _⟩ | ⟨_, _, _, _, h⟩ | ⟨a, _⟩ | ⟨a, _⟩) <;> omega
        · refine Rn.f (by rw [decide_eq_true_eq]; exact l3) (Rn.const (congrArg some (okW_eq (Iff.trans ?_ hk.symm))))
          simp only [Bool.false_eq_true, false_iff]
          omega
      · refine Rn.f (by simpa using (by omega : ¬ (w2.length : Int) = 5)) (Rn.const (congrArg some (okW_eq (Iff.trans ?_ hk.symm))))
        simp only [Bool.false_eq_true, false_iff]
        omega
    · refine Rn.f (by simpa using (by omega : ¬ (w1.length : Int) = 2)) (Rn.const (congrArg some (okW_eq (Iff.trans ?_ hk.symm))))
      simp only [Bool.false_eq_true, false_iff]
      omega
  refine Rn.f (by simpa using k2) ?_
  by_cases k3 : w0 = 3
  · refine Rn.t (by simp [k3]) ?_
    by_cases l0 : w2.length = 0
    · have e5 : Rn (fun k => Lwave_Valid_5 k k 1 w0 w1 w2) (.inr (w0, w1, w2)) := Rn.eq 1 fun k hk => by
        obtain ⟨k, rfl⟩ : ∃ m, k = m + 1 := ⟨k - 1, by omega⟩
        show Lwave_Valid_5s (k + 1) (Lwave_Valid_5 (k + 1) k) _ _ _ _ = _
        unfold Lwave_Valid_5s
        exact if_neg (by rw [l0]; decide)
      refine Rn.bind e5 (Rn.eq 0 fun k _ => ?_)
      show (if _ then _ else _) = _
      dsimp only
      repeat' split
      all_goals refine congrArg some (okW_eq (Iff.trans ?_ hk.symm))
      all_goals simp only [beq_iff_eq, decide_eq_true_eq, Bool.false_eq_true, false_iff, Bool.not_eq_true] at *
      all_goals omega
    obtain ⟨o, ho, h5⟩ := wvalid5 w0 w1 w2 h1 h2 (by omega)
    refine Rn.bind ho.diag ?_
    rcases h5 with ⟨h5, rfl⟩ | ⟨h5, a, ha, rfl⟩
    case inr =>
      have : okW w0 w1 w2 = false := okW_f.2 fun h => by
        rcases h.kind with g | g | g | g
        · omega
        · omega
        · exact h5 g.2.2.2.2
        · omega
      rw [this, ← ha]
      exact Rn.pure _
    refine Rn.eq 0 fun k _ => ?_
    show (if _ then _ else _) = _
    dsimp only
    have hk3 : OkW w0 w1 w2 ↔ (w1.length = w2.length ∧ 1 ≤ w1.length ∧ w1.length ≤ 16) := hk.trans ⟨fun g => by
      rcases g with g | g | g | g
      · omega
      · omega
      · exact ⟨g.2.1, g.2.2.1, g.2.2.2.1⟩
      · omega, fun g => .inr (.inr (.inl ⟨k3, g.1, g.2.1, g.2.2, h5⟩))⟩
    repeat' split
    all_goals refine congrArg some (okW_eq (Iff.trans ?_ hk3.symm))
    all_goals simp only [beq_iff_eq, decide_eq_true_eq, Bool.false_eq_true, false_iff, Bool.not_eq_true] at *
    all_goals omega
  refine Rn.f (by simpa using k3) ?_
  by_cases k4 : w0 = 4
  · refine Rn.t (by simp [k4]) (Rn.eq 0 fun k _ => ?_)
    dsimp only
    repeat' split
    all_goals refine congrArg some (okW_eq (Iff.trans ?_ hk.symm))
    all_goals simp only [beq_iff_eq, decide_eq_true_eq, Bool.false_eq_true, false_iff, Bool.not_eq_true] at *
    all_goals omega
  refine Rn.f (by simpa using k4) (Rn.const (congrArg some (okW_eq (Iff.trans ?_ hk.symm))))
  simp only [Bool.false_eq_true, false_iff]
  omega
theorem waveRef_ev : Rn (fun k => Fshuntref04_Valid k w0 w1 w2) (okW w0 w1 w2) := by
  refine Rn.up (f := fun k => Fshuntref04_Valid k w0 w1 w2) ?_
  show Rn (fun k => bshuntref04_Valid k w0 w1 w2) _
  unfold bshuntref04_Valid
  obtain ⟨o, ho, hv⟩ := rvalid0 w0 w1 w2 h1 h2
  refine Rn.bind ho.diag ?_
  rcases hv with ⟨hv, rfl⟩ | ⟨hv, a, ha, rfl⟩
  case inr =>
    have : okW w0 w1 w2 = false := okW_f.2 fun h => hv h.vals
    rw [this, ← ha]
    exact Rn.pure _
  show Rn (fun k => Option.bind (Lshuntref04_Valid_2 k k 0 w0 w1 w2) _) _
  obtain ⟨o, ho, hs⟩ := rvalid2 w0 w1 w2 h1 h2
  refine Rn.bind ho.diag ?_
  rcases hs with ⟨hs, rfl⟩ | ⟨hs, a, ha, rfl⟩
  case inr =>
    have : okW w0 w1 w2 = false := okW_f.2 fun h => hs h.steps
    rw [this, ← ha]
    exact Rn.pure _
  have hk : OkW w0 w1 w2 ↔ _ := ⟨fun h => h.kind, fun h => ⟨hv, hs, h⟩⟩
  by_cases k1 : w0 = 1
  · refine Rn.t (by simp [k1]) (Rn.eq 0 fun k _ => ?_)
    dsimp only
    repeat' split
    all_goals refine congrArg some (okW_eq (Iff.trans ?_ hk.symm))
    all_goals simp only [beq_iff_eq, decide_eq_true_eq, Bool.false_eq_true, false_iff, Bool.not_eq_true] at *
    all_goals omega
  refine Rn.f (by simpa using k1) ?_
  by_cases k2 : w0 = 2
  · refine Rn.t (by simp [k2]) ?_
    by_cases l1 : w1.length = 2
    · refine Rn.t (by simp [l1]) ?_
      by_cases l2 : w2.length = 5
      · refine Rn.t (by simp [l2]) ?_
        refine Rn.at (getD_some 0 (by show 4 < w2.length; omega)) ?_
        by_cases l3 : w2.getD 4 0 > 0
        · refine Rn.t (decide_eq_true l3) (Rn.at (getD_some 0 (by show 1 < w2.length; omega)) (Rn.at (getD_some 0 (by show 2 < w2.length; omega)) (Rn.at (getD_some 0 (by show 3 < w2.length; omega)) (Rn.at (getD_some 0 (by show 4 < w2.length; omega)) (Rn.const (congrArg some (okW_eq (Iff.trans ?_ hk.symm))))))))
          have s1 := hs 1 (by omega) (by omega)
          have s2 := hs 2 (by omega) (by omega)
          have s3 := hs 3 (by omega) (by omega)
          dsimp only
          rw [wrap_i64 (x := w2.getD 1 0 + w2.getD 2 0) (by omega), wrap_i64 (by omega), decide_eq_true_eq]
          constructor
          · intro h; exact .inr (.inl ⟨k2, l1, l2, l3, h⟩)
          · rintro (⟨a, _⟩ | ⟨_, _, _, _, h⟩ | ⟨a, _⟩ | ⟨a, _⟩) <;> omega
        · refine Rn.f (by rw [decide_eq_true_eq]; exact l3) (Rn.const (congrArg some (okW_eq (Iff.trans ?_ hk.symm))))
          simp only [Bool.false_eq_true, false_iff]
          omega
      · refine Rn.f (by simpa using (by omega : ¬ (w2.length : Int) = 5)) (Rn.const (congrArg some (okW_eq (Iff.trans ?_ hk.symm))))
        simp only [Bool.false_eq_true, false_iff]
        omega
    · refine Rn.f (by simpa using (by omega : ¬ (w1.length : Int) = 2)) (Rn.const (congrArg some (okW_eq (Iff.trans ?_ hk.symm))))
      simp only [Bool.false_eq_true, false_iff]
      omega
  refine Rn.f (by simpa using k2) ?_
  by_cases k3 : w0 = 3
  · refine Rn.t (by simp [k3]) ?_
    by_cases l0 : w1.length = w2.length ∧ 1 ≤ w1.length ∧ w1.length ≤ 16
    · refine Rn.t (by rw [beq_iff_eq]; show (w1.length : Int) = w2.length; omega) (Rn.t (decide_eq_true (by show (w1.length : Int) ≥ 1; omega)) (Rn.t (decide_eq_true (by show (w1.length : Int) ≤ 16; omega)) ?_))
      obtain ⟨b, hb, h5⟩ := rising_ev w2 h2 (by omega)
      have : b = okW w0 w1 w2 := okW_eq (h5.trans (Iff.trans ⟨fun g => .inr (.inr (.inl ⟨k3, l0.1, l0.2.1, l0.2.2, g⟩)), fun g => by
        rcases g with g | g | g | g
        · omega
        · omega
        · exact g.2.2.2.2
        · omega⟩ hk.symm))
      rw [← this]
      exact Rn.bind hb (Rn.pure _)
    · have : okW w0 w1 w2 = false := okW_f.2 fun h => by have := h.kind; omega
      rw [this]
      by_cases c1 : w1.length = w2.length
      · refine Rn.t (by rw [beq_iff_eq]; show (w1.length : Int) = w2.length; omega) ?_
        by_cases c2 : 1 ≤ w1.length
        · refine Rn.t (decide_eq_true (by show (w1.length : Int) ≥ 1; omega)) (Rn.f (by rw [decide_eq_true_eq]; show ¬ (w1.length : Int) ≤ 16; omega) (Rn.pure _))
        · exact Rn.f (by rw [decide_eq_true_eq]; show ¬ (w1.length : Int) ≥ 1; omega) (Rn.pure _)
      · exact Rn.f (by rw [beq_iff_eq]; show ¬ (w1.length : Int) = w2.length; omega) (Rn.pure _)
  refine Rn.f (by simpa using k3) ?_
  by_cases k4 : w0 = 4
  · refine Rn.t (by simp [k4]) (Rn.eq 0 fun k _ => ?_)
    dsimp only
    repeat' split
    all_goals refine congrArg some (okW_eq (Iff.trans ?_ hk.symm))
    all_goals simp only [beq_iff_eq, decide_eq_true_eq, Bool.false_eq_true, false_iff, Bool.not_eq_true] at *
    all_goals omega
  refine Rn.f (by simpa using k4) (Rn.const (congrArg some (okW_eq (Iff.trans ?_ hk.symm))))
  simp only [Bool.false_eq_true, false_iff]
  omega
end
end Go.Proofs.Ytbhnafdmilfobaa.Am

/- Plain reckoning: what a wave says. -/
set_option linter.unusedVariables false
set_option linter.unusedSectionVars false
set_option linter.unusedSimpArgs false
set_option maxRecDepth 10000
namespace Go.Proofs.Ytbhnafdmilfobaa.Am
open Go

/-- Between a and b, k of n parts along. -/
def mixQ (a b : Rat) (k n : Int) : Rat := (b - a) * Rat.divInt k n + a
theorem between_ev {a0 a1 b0 b1 : Int} (ha : okN a0 a1 = true) (hb : okN b0 b1 = true) (k0 n : Int) (hk : -9223372036854775808 ≤ k0 ∧ k0 ≤ 9223372036854775807) (hn : -9223372036854775808 ≤ n ∧ n ≤ 9223372036854775807) (h0 : n ≠ 0) :
    ∃ s p t r, Rn (fun k => Fwave_between k a0 a1 b0 b1 k0 n) (s, p, t, r) ∧ Fr s p t r (mixQ (numQ a0 a1) (numQ b0 b1) k0 n) ∧ p.length ≤ 40 ∧ r.length ≤ 40 := by
  obtain ⟨s1, p1, t1, r1, a1', a2, a3, a4⟩ := wvalue_ev ha
  obtain ⟨s2, p2, t2, r2, b1', b2, b3, b4⟩ := wvalue_ev hb
  obtain ⟨s3, p3, t3, r3, c1, c2, c3, c4⟩ := rSub_ev false false b2 a2 (by omega) (by omega) (by omega) (by omega)
  obtain ⟨s4, p4, t4, r4, d1, d2, d3, d4⟩ := NewRat_ev k0 n hk hn h0
  obtain ⟨s5, p5, t5, r5, e1, e2, e3, e4⟩ := rMulw_ev c2 d2 (by omega) (by omega) (by omega) (by omega)
  obtain ⟨s6, p6, t6, r6, f1, f2, f3, f4⟩ := rAddw_ev e2 a2 (by omega) (by omega) (by omega) (by omega)
  exact ⟨s6, p6, t6, r6, Rn.up (f := fun k => Fwave_between k a0 a1 b0 b1 k0 n) (Rn.bind a1' (Rn.bind b1' (Rn.bind c1 (Rn.bind d1 (Rn.bind e1 (Rn.bind f1 (Rn.pure _))))))), f2, by omega, by omega⟩
theorem grid_end {x0 x2 : Bool} {x1 x3 : List Int} {q : Rat} (hx : Fr x0 x1 x2 x3 q) (l1 : x1.length ≤ 40) (l3 : x3.length ≤ 40) :
    Rn (fun k => Option.bind (Fbig_NewRat k 1000000000 1) fun r2 => Option.bind (Fbig_Rat_Mul_wqk k x0 x1 x2 x3 r2.1 r2.2.1 r2.2.2.1 r2.2.2.2) fun r3 => Option.bind (Fwide_Frac_plq k r3.1 r3.2.1 r3.2.2.1 r3.2.2.2.1) fun r4 => Option.bind (Frat_Round k r4.1 r4.2.1 r4.2.2.1 r4.2.2.2.1) fun r5 => some (r5.1, r5.2)) (gridR q) := by
  obtain ⟨s1, p1, t1, r1, b1, b2, b3, b4⟩ := NewRat_ev 1000000000 1 (by omega) (by omega) (by omega)
  obtain ⟨s2, p2, t2, r2, c1, c2, c3, c4⟩ := rMulw_ev hx b2 (by omega) (by omega) (by omega) (by omega)
  exact Rn.bind b1 (Rn.bind c1 (Rn.bind (wFrac_ev c2 (show p2.length ≤ 1000000 by omega) (show r2.length ≤ 1000000 by omega)) (Rn.bind (Round_ev c2 (show p2.length ≤ 72 by omega) (show r2.length ≤ 72 by omega)) (Rn.pure _))))

/-- What a pulse says. -/
def pulseQ (lo hi : Rat) (s0 s1 s2 s3 s4 step : Int) : Rat :=
  if step < s0 then lo else if (step - s0) % s4 < s1 then mixQ lo hi ((step - s0) % s4) s1 else if (step - s0) % s4 < s1 + s2 then hi
  else if (step - s0) % s4 < s1 + s2 + s3 then mixQ hi lo ((step - s0) % s4 - s1 - s2) s3 else lo
/-- How many steps stand at the beginning that are not above. -/
def upI (step : Int) : List Int → Nat
  | [] => 0
  | x :: l => if x ≤ step then upI step l + 1 else 0
def valQ (w1 : List (Int × Int)) (j : Nat) : Rat := numQ (w1.getD j (0, 0)).1 (w1.getD j (0, 0)).2
def pwlQ (w1 : List (Int × Int)) (w2 : List Int) (step : Int) (i : Nat) : Rat :=
  if i = 0 then valQ w1 0 else if i = w2.length then valQ w1 (i - 1) else mixQ (valQ w1 (i - 1)) (valQ w1 i) (step - w2.getD (i - 1) 0) (w2.getD i 0 - w2.getD (i - 1) 0)
def atQ (w0 : Int) (w1 : List (Int × Int)) (w2 : List Int) (step : Int) : Rat :=
  if w0 = 1 then valQ w1 0 else if w0 = 2 then pulseQ (valQ w1 0) (valQ w1 1) (w2.getD 0 0) (w2.getD 1 0) (w2.getD 2 0) (w2.getD 3 0) (w2.getD 4 0) step
  else if w0 = 3 then pwlQ w1 w2 step (upI step w2) else valQ w1 (step % (w1.length : Int)).toNat
theorem upI_le (step : Int) : ∀ l : List Int, upI step l ≤ l.length
  | [] => Nat.le_refl _
  | x :: l => by have := upI_le step l; unfold upI; split <;> simp <;> omega
theorem upI_below (step : Int) : ∀ (l : List Int) (j : Nat), j < upI step l → l.getD j 0 ≤ step
  | [], j, h => absurd h (by simp [upI])
  | x :: l, j, h => by
    unfold upI at h
    split at h
    · cases j with
      | zero => simpa using ‹x ≤ step›
      | succ j => simpa using upI_below step l j (by omega)
    · omega
theorem upI_at (step : Int) : ∀ l : List Int, upI step l < l.length → step < l.getD (upI step l) 0
  | [], h => absurd h (by simp)
  | x :: l, h => by
    unfold upI at h ⊢
    split at h
    · rename_i g
      rw [if_pos g]
      simpa using upI_at step l (by simpa using h)
    · rename_i g
      rw [if_neg g]
      simpa using g
theorem pwl_loop (step w0 : Int) (w1 : List (Int × Int)) (w2 : List Int) (h2 : w2.length ≤ 1000000000000000000) : ∀ d i : Nat, i + d = w2.length → Rl (fun k n => Lwave_pwl_0 k n step i w0 w1 w2) (step, ((i + upI step (w2.drop i) : Nat) : Int), w0, w1, w2) := by
  intro d
  induction d with
  | zero =>
    intro i hi
    refine Rl.up (f := fun k n => Lwave_pwl_0 k n step i w0 w1 w2) (Rl.of 0 fun k n _ => ?_)
    show Lwave_pwl_0s k (Lwave_pwl_0 k n) _ _ _ _ _ = _
    unfold Lwave_pwl_0s
    rw [List.drop_of_length_le (by omega)]
    exact if_neg (by simp; omega)
  | succ d ih =>
    intro i hi
    refine Rl.up (f := fun k n => Lwave_pwl_0 k n step i w0 w1 w2) ?_
    show Rl (fun k n => Lwave_pwl_0s k (Lwave_pwl_0 k n) _ _ _ _ _) _
    unfold Lwave_pwl_0s
    have hd : w2.drop i = w2.getD i 0 :: w2.drop (i + 1) := by rw [List.drop_eq_getElem_cons (by omega)]; simp [List.getD, show i < w2.length by omega]
    refine Rl.t (decide_eq_true (by omega)) (Rl.t (by omega) (Rl.at (getD_some 0 (by omega)) ?_))
    rw [Int.toNat_natCast, hd]
    by_cases h : w2.getD i 0 ≤ step
    · refine Rl.t (decide_eq_true h) ?_
      have := ih (i + 1) (by omega)
      rw [wrap_i64 (by omega)]
      unfold upI
      rw [if_pos h]
      have e : i + (upI step (w2.drop (i + 1)) + 1) = i + 1 + upI step (w2.drop (i + 1)) := by omega
      rw [e]
      exact this
    · refine Rl.f (by rw [decide_eq_true_eq]; exact h) ?_
      unfold upI
      rw [if_neg h]
      exact Rl.pure _
section
variable {w0 : Int} {w1 : List (Int × Int)} {w2 : List Int} (hw : OkW w0 w1 w2) {step : Int} (h0 : 0 ≤ step) (h1 : step ≤ 1000000000)
include hw h0 h1
theorem pulse_ev (hk : w0 = 2) : ∃ s p t r, Rn (fun k => Fwave_pulse k w0 w1 w2 step) (s, p, t, r) ∧ Fr s p t r (atQ w0 w1 w2 step) ∧ p.length ≤ 40 ∧ r.length ≤ 40 := by
  obtain ⟨g1, g2, g3, g4⟩ : w1.length = 2 ∧ w2.length = 5 ∧ 1 ≤ w2.getD 4 0 ∧ w2.getD 1 0 + w2.getD 2 0 + w2.getD 3 0 ≤ w2.getD 4 0 := by
    rcases hw.kind with g | g | g | g
    · omega
    · exact g.2
    · omega
    · omega
  have v0 := hw.vals 0 (by omega) (by omega)
  have v1 := hw.vals 1 (by omega) (by omega)
  have q0 := hw.steps 0 (by omega) (by omega)
  have q1 := hw.steps 1 (by omega) (by omega)
  have q2 := hw.steps 2 (by omega) (by omega)
  have q3 := hw.steps 3 (by omega) (by omega)
  have q4 := hw.steps 4 (by omega) (by omega)
  obtain ⟨sl, pl, tl', rl, l1, l2, l3, l4⟩ := wvalue_ev v0
  obtain ⟨sh, ph, th, rh, m1, m2, m3, m4⟩ := wvalue_ev v1
  have eq : atQ w0 w1 w2 step = pulseQ (valQ w1 0) (valQ w1 1) (w2.getD 0 0) (w2.getD 1 0) (w2.getD 2 0) (w2.getD 3 0) (w2.getD 4 0) step := by
    unfold atQ; rw [if_neg (by omega), if_pos hk]
  rw [eq]
  have r0 := getD_some (l := w2) 0 (show 0 < w2.length by omega)
  have r1 := getD_some (l := w2) 0 (show 1 < w2.length by omega)
  have r2 := getD_some (l := w2) 0 (show 2 < w2.length by omega)
  have r3 := getD_some (l := w2) 0 (show 3 < w2.length by omega)
  have r4 := getD_some (l := w2) 0 (show 4 < w2.length by omega)
  generalize w2.getD 0 0 = s0 at *
  generalize w2.getD 1 0 = s1 at *
  generalize w2.getD 2 0 = s2 at *
  generalize w2.getD 3 0 = s3 at *
  generalize w2.getD 4 0 = s4 at *
  have up : ∀ {s p t r}, Rn (fun k => bwave_pulse k w0 w1 w2 step) (s, p, t, r) → Rn (fun k => Fwave_pulse k w0 w1 w2 step) (s, p, t, r) := fun h => Rn.up (f := fun k => Fwave_pulse k w0 w1 w2 step) h
  by_cases c0 : step < s0
  · refine ⟨sl, pl, tl', rl, up ?_, l2.cast (by unfold pulseQ; rw [if_pos c0]; rfl), by omega, by omega⟩
    exact Rn.at (getD_some (0, 0) (by show 0 < w1.length; omega)) (Rn.at (getD_some (0, 0) (by show 1 < w1.length; omega)) (Rn.at r0 (Rn.t (decide_eq_true c0) (Rn.bind l1 (Rn.pure _)))))
  have et : Int.tmod (IntKind.i64.wrap (step - s0)) s4 = (step - s0) % s4 := by
    rw [wrap_i64 (by omega)]; exact Int.tmod_eq_emod_of_nonneg (by omega)
  have t0 := Int.emod_nonneg (step - s0) (show s4 ≠ 0 by omega)
  have t1 := Int.emod_lt_of_pos (step - s0) (show 0 < s4 by omega)
  have wr1 : IntKind.i64.wrap (s1 + s2) = s1 + s2 := wrap_i64 (by omega)
  have wr2 : IntKind.i64.wrap (s1 + s2 + s3) = s1 + s2 + s3 := wrap_i64 (by omega)
  unfold pulseQ
  rw [if_neg c0]
  have pre : ∀ {s p t r}, Rn (fun k => if (decide (Int.tmod (IntKind.i64.wrap (step - s0)) s4 < s1)) = true then _ else _) (s, p, t, r) → Rn (fun k => bwave_pulse k w0 w1 w2 step) (s, p, t, r) := fun h =>
    Rn.at (getD_some (0, 0) (by show 0 < w1.length; omega)) (Rn.at (getD_some (0, 0) (by show 1 < w1.length; omega)) (Rn.at r0 (Rn.f (by rw [decide_eq_true_eq]; exact c0) (Rn.at r0 (Rn.at r4 (Rn.f (by omega) (Rn.at r1 h)))))))
  by_cases c1 : (step - s0) % s4 < s1
  · rw [if_pos c1]
    obtain ⟨s, p, t, r, e1, e2, e3, e4⟩ := between_ev v0 v1 ((step - s0) % s4) s1 (by omega) (by omega) (by omega)
    refine ⟨s, p, t, r, up (pre (Rn.t (by rw [et]; exact decide_eq_true c1) (Rn.at r1 ?_))), e2, e3, e4⟩
    rw [et]
    exact Rn.bind e1 (Rn.pure _)
  rw [if_neg c1]
  by_cases c2 : (step - s0) % s4 < s1 + s2
  · rw [if_pos c2]
    refine ⟨sh, ph, th, rh, up (pre (Rn.f (by rw [et, decide_eq_true_eq]; exact c1) (Rn.at r1 (Rn.at r2 (Rn.t (by rw [et, wr1]; exact decide_eq_true c2) (Rn.bind m1 (Rn.pure _))))))), m2, by omega, by omega⟩
  rw [if_neg c2]
  by_cases c3 : (step - s0) % s4 < s1 + s2 + s3
  · rw [if_pos c3]
    obtain ⟨s, p, t, r, e1, e2, e3, e4⟩ := between_ev v1 v0 ((step - s0) % s4 - s1 - s2) s3 (by omega) (by omega) (by omega)
    refine ⟨s, p, t, r, up (pre (Rn.f (by rw [et, decide_eq_true_eq]; exact c1) (Rn.at r1 (Rn.at r2 (Rn.f (by rw [et, wr1, decide_eq_true_eq]; exact c2) (Rn.at r1 (Rn.at r2 (Rn.at r3 (Rn.t (by rw [et, wr1, wr2]; exact decide_eq_true c3) (Rn.at r1 (Rn.at r2 (Rn.at r3 ?_)))))))))))), e2, e3, e4⟩
    rw [et, wrap_i64 (x := (step - s0) % s4 - s1) (by omega), wrap_i64 (by omega)]
    exact Rn.bind e1 (Rn.pure _)
  rw [if_neg c3]
  refine ⟨sl, pl, tl', rl, up (pre (Rn.f (by rw [et, decide_eq_true_eq]; exact c1) (Rn.at r1 (Rn.at r2 (Rn.f (by rw [et, wr1, decide_eq_true_eq]; exact c2) (Rn.at r1 (Rn.at r2 (Rn.at r3 (Rn.f (by rw [et, wr1, wr2, decide_eq_true_eq]; exact c3) (Rn.bind l1 (Rn.pure _))))))))))), l2, by omega, by omega⟩
end
end Go.Proofs.Ytbhnafdmilfobaa.Am

/- Plain reckoning: what a wave says, the whole. -/
set_option linter.unusedVariables false
set_option linter.unusedSectionVars false
set_option linter.unusedSimpArgs false
set_option maxRecDepth 10000
namespace Go.Proofs.Ytbhnafdmilfobaa.Am
open Go
section
variable {w0 : Int} {w1 : List (Int × Int)} {w2 : List Int} (hw : OkW w0 w1 w2) {step : Int} (h0 : 0 ≤ step) (h1 : step ≤ 1000000000)
include hw h0 h1
theorem pwl_ev (hk : w0 = 3) : ∃ s p t r, Rn (fun k => Fwave_pwl k w0 w1 w2 step) (s, p, t, r) ∧ Fr s p t r (atQ w0 w1 w2 step) ∧ p.length ≤ 40 ∧ r.length ≤ 40 := by
  obtain ⟨g1, g2, g3, g4⟩ : w1.length = w2.length ∧ 1 ≤ w1.length ∧ w1.length ≤ 16 ∧ (∀ j, 1 ≤ j → j < w2.length → w2.getD (j - 1) 0 < w2.getD j 0) := by
    rcases hw.kind with g | g | g | g
    · omega
    · omega
    · exact g.2
    · omega
  have eq : atQ w0 w1 w2 step = pwlQ w1 w2 step (upI step w2) := by
    unfold atQ; rw [if_neg (by omega), if_neg (by omega), if_pos hk]
  rw [eq]
  have lp := pwl_loop step w0 w1 w2 (by omega) w2.length 0 (by omega)
  have hle := upI_le step w2
  rw [List.drop_zero, Nat.zero_add] at lp
  have hb := upI_below step w2
  have ha := upI_at step w2
  generalize upI step w2 = i at *
  have up : ∀ {s p t r}, Rn (fun k => bwave_pwl k w0 w1 w2 step) (s, p, t, r) → Rn (fun k => Fwave_pwl k w0 w1 w2 step) (s, p, t, r) := fun h => Rn.up (f := fun k => Fwave_pwl k w0 w1 w2 step) h
  unfold pwlQ
  by_cases c0 : i = 0
  · rw [if_pos c0]
    obtain ⟨s, p, t, r, l1, l2, l3, l4⟩ := wvalue_ev (hw.vals 0 (by omega) (by omega))
    refine ⟨s, p, t, r, up (Rn.bind lp.diag (Rn.t (by rw [c0]; rfl) (Rn.at (getD_some (0, 0) (by show 0 < w1.length; omega)) (Rn.bind l1 (Rn.pure _))))), l2, by omega, by omega⟩
  rw [if_neg c0]
  have e1 : (IntKind.i64.wrap ((i : Int) - 1)) = ((i - 1 : Nat) : Int) := by rw [wrap_i64 (by omega)]; omega
  by_cases c1 : i = w2.length
  · rw [if_pos c1]
    obtain ⟨s, p, t, r, l1, l2, l3, l4⟩ := wvalue_ev (hw.vals (i - 1) (by omega) (by omega))
    refine ⟨s, p, t, r, up (Rn.bind lp.diag (Rn.f (by rw [beq_iff_eq]; show ¬ (i : Int) = 0; omega) (Rn.t (by rw [beq_iff_eq]; show (i : Int) = w2.length; omega) ?_))), l2, by omega, by omega⟩
    dsimp only
    rw [e1]
    exact Rn.t (by omega) (Rn.at (getD_some (0, 0) (by rw [Int.toNat_natCast]; omega)) (Rn.bind l1 (Rn.pure _)))
  · rw [if_neg c1]
    have hi : i < w2.length := by omega
    have b1 := hb (i - 1) (by omega)
    have b2 := ha hi
    have q1 := hw.steps (i - 1) (by omega) (by omega)
    have q2 := hw.steps i (by omega) (by omega)
    obtain ⟨s, p, t, r, f1, f2, f3, f4⟩ := between_ev (hw.vals (i - 1) (by omega) (by omega)) (hw.vals i (by omega) (by omega)) (step - w2.getD (i - 1) 0) (w2.getD i 0 - w2.getD (i - 1) 0) (by omega) (by omega) (by omega)
    refine ⟨s, p, t, r, up (Rn.bind lp.diag (Rn.f (by rw [beq_iff_eq]; show ¬ (i : Int) = 0; omega) (Rn.f (by rw [beq_iff_eq]; show ¬ (i : Int) = w2.length; omega) ?_))), f2, f3, f4⟩
    dsimp only
    rw [e1]
    refine Rn.t (by omega) (Rn.at (getD_some (0, 0) (by rw [Int.toNat_natCast]; omega)) (Rn.t (by omega) (Rn.at (getD_some (0, 0) (by rw [Int.toNat_natCast]; omega)) (Rn.t (by omega) (Rn.at (getD_some 0 (by rw [Int.toNat_natCast]; omega)) (Rn.t (by omega) (Rn.at (getD_some 0 (by rw [Int.toNat_natCast]; omega)) (Rn.t (by omega) (Rn.at (getD_some 0 (by rw [Int.toNat_natCast]; omega)) ?_)))))))))
    rw [Int.toNat_natCast, Int.toNat_natCast, wrap_i64 (by omega), wrap_i64 (by omega)]
    exact Rn.bind f1 (Rn.pure _)
theorem atRight_ev : Rn (fun k => Fwave_At k w0 w1 w2 step) (gridR (atQ w0 w1 w2 step)) := by
  have hl : w1.length ≤ 1000000000000000000 ∧ w2.length ≤ 1000000000000000000 := by
    have := hw.kind; omega
  have hv := waveValid_ev w0 w1 w2 hl.1 hl.2
  rw [okW_iff.2 hw] at hv
  refine Rn.up (f := fun k => Fwave_At k w0 w1 w2 step) (Rn.bind hv (Rn.f (by decide) (Rn.t (by rw [decide_eq_false_iff_not]; omega) (Rn.f (by rw [decide_eq_true_eq]; omega) ?_))))
  by_cases k1 : w0 = 1
  · have hlen : w1.length = 1 := by have := hw.kind; omega
    obtain ⟨s, p, t, r, l1, l2, l3, l4⟩ := wvalue_ev (hw.vals 0 (by omega) (by omega))
    have eq : atQ w0 w1 w2 step = valQ w1 0 := by unfold atQ; rw [if_pos k1]
    rw [eq]
    exact Rn.t (by rw [beq_iff_eq]; exact k1) (Rn.at (getD_some (0, 0) (by show 0 < w1.length; omega)) (Rn.bind l1 (grid_end l2 (show p.length ≤ 40 by omega) (show r.length ≤ 40 by omega))))
  refine Rn.f (by rw [beq_iff_eq]; exact k1) ?_
  by_cases k2 : w0 = 2
  · obtain ⟨s, p, t, r, l1, l2, l3, l4⟩ := pulse_ev hw h0 h1 k2
    exact Rn.t (by rw [beq_iff_eq]; exact k2) (Rn.bind l1 (grid_end l2 l3 l4))
  refine Rn.f (by rw [beq_iff_eq]; exact k2) ?_
  by_cases k3 : w0 = 3
  · obtain ⟨s, p, t, r, l1, l2, l3, l4⟩ := pwl_ev hw h0 h1 k3
    exact Rn.t (by rw [beq_iff_eq]; exact k3) (Rn.bind l1 (grid_end l2 l3 l4))
  refine Rn.f (by rw [beq_iff_eq]; exact k3) ?_
  have k4 : w0 = 4 ∧ 1 ≤ w1.length := by have := hw.kind; omega
  have et : Int.tmod step (w1.length : Int) = step % (w1.length : Int) := Int.tmod_eq_emod_of_nonneg h0
  have t0 := Int.emod_nonneg step (show (w1.length : Int) ≠ 0 by omega)
  have t1 := Int.emod_lt_of_pos step (show 0 < (w1.length : Int) by omega)
  obtain ⟨s, p, t, r, l1, l2, l3, l4⟩ := wvalue_ev (hw.vals (step % (w1.length : Int)).toNat (by omega) (by omega))
  have eq : atQ w0 w1 w2 step = valQ w1 (step % (w1.length : Int)).toNat := by unfold atQ; rw [if_neg k1, if_neg k2, if_neg k3]
  rw [eq]
  refine Rn.f (by omega) ?_
  rw [et]
  exact Rn.t (by omega) (Rn.at (getD_some (0, 0) (by omega)) (Rn.bind l1 (grid_end l2 (show p.length ≤ 40 by omega) (show r.length ≤ 40 by omega))))
end
end Go.Proofs.Ytbhnafdmilfobaa.Am

/- The fixed fact that every law asks first. -/
namespace Go.Proofs.Ytbhnafdmilfobaa.Am
theorem awake4_eq (j : Nat) : Fshuntlaw04_awake (j + 60) = some true := by kernel_rfl
theorem awake4_ev : Rn (fun k => Fshuntlaw04_awake k) true := Rn.eq 60 fun k hk => by
  obtain ⟨j, rfl⟩ : ∃ j, k = j + 60 := ⟨k - 60, by omega⟩
  exact awake4_eq j
end Go.Proofs.Ytbhnafdmilfobaa.Am

/- The law WaveAgain in plain words. -/
set_option linter.unusedVariables false
set_option linter.unusedSectionVars false
set_option linter.unusedSimpArgs false
set_option maxRecDepth 10000
namespace Go.Proofs.Ytbhnafdmilfobaa.Am
open Go
abbrev cdW : Cd := .pr (.int .i64) (.pr (.sl (.pr (.int .i64) (.int .i64))) (.sl (.int .i64)))
theorem wlen {w : Int × List (Int × Int) × List Int} (h : Wfd cdW w) : w.2.1.length ≤ 1000000000000000000 ∧ w.2.2.length ≤ 1000000000000000000 := by
  obtain ⟨_, ⟨⟨a, ra⟩, _⟩, ⟨b, rb⟩, _⟩ := h
  have ra : w.2.1.length * 16 ≤ reachBytes := ra
  have rb : w.2.2.length * 8 ≤ reachBytes := rb

  unfold maxLen at a b
  unfold reachBytes at ra rb
  omega
end Go.Proofs.Ytbhnafdmilfobaa.Am

/- The law WaveBetween in plain words. -/
set_option linter.unusedVariables false
set_option linter.unusedSectionVars false
set_option linter.unusedSimpArgs false
set_option maxRecDepth 10000
namespace Go.Proofs.Ytbhnafdmilfobaa.Am
open Go
/-- The whole number on the grid nearest to a fraction. -/
def nQ (q : Rat) : Int := nearI (q * Rat.divInt 1000000000 1).num (q * Rat.divInt 1000000000 1).den
theorem gridR_eq (q : Rat) : gridR q = if -1000000000000000000 ≤ nQ q ∧ nQ q ≤ 1000000000000000000 then (nQ q, 0) else (0, 4) := rfl
end Go.Proofs.Ytbhnafdmilfobaa.Am

/- Plain reckoning: the next corner of a wave. -/
set_option linter.unusedVariables false
set_option linter.unusedSectionVars false
set_option linter.unusedSimpArgs false
set_option maxRecDepth 10000
namespace Go.Proofs.Ytbhnafdmilfobaa.Am
open Go

/-- The first of a list that lies behind a step, and in range. -/
def firstN (step : Int) (l : List Int) : Option Int := l.find? fun c => decide (step < c ∧ c ≤ 1000000000)
def tellN : Option Int → Int × Bool
  | some c => (c, true)
  | none => (0, false)
def tellS : Option Int → (Int × Bool) ⊕ Unit
  | some c => .inl (c, true)
  | none => .inr ()
theorem first_loop (step : Int) (l : List Int) (hl : l.length ≤ 1000000000000000000) : ∀ d i : Nat, i + d = l.length → Rl (fun k n => Lwave_Next_1 k n step l l.length i) (tellS (firstN step (l.drop i))) := by
  intro d
  induction d with
  | zero =>
    intro i hi
    refine Rl.up (f := fun k n => Lwave_Next_1 k n step l l.length i) (Rl.of 0 fun k n _ => ?_)
    show Lwave_Next_1s k (Lwave_Next_1 k n) _ _ _ _ = _
    unfold Lwave_Next_1s
    rw [List.drop_of_length_le (by omega)]
    exact if_neg (by simp; omega)
  | succ d ih =>
    intro i hi
    refine Rl.up (f := fun k n => Lwave_Next_1 k n step l l.length i) ?_
    show Rl (fun k n => Lwave_Next_1s k (Lwave_Next_1 k n) _ _ _ _) _
    unfold Lwave_Next_1s
    have hd : l.drop i = l.getD i 0 :: l.drop (i + 1) := by rw [List.drop_eq_getElem_cons (by omega)]; simp [List.getD, show i < l.length by omega]
    have wr : IntKind.i64.wrap ((i : Int) + 1) = ((i + 1 : Nat) : Int) := by rw [wrap_i64 (by omega)]; rfl
    refine Rl.t (decide_eq_true (by omega)) (Rl.t (by omega) (Rl.at (getD_some 0 (by omega)) ?_))
    rw [Int.toNat_natCast, hd, wr]
    unfold firstN
    by_cases h1 : step < l.getD i 0
    · by_cases h2 : l.getD i 0 ≤ 1000000000
      · rw [List.find?_cons_of_pos (by exact decide_eq_true ⟨h1, h2⟩)]
        exact Rl.t (decide_eq_true h1) (Rl.t (decide_eq_true h2) (Rl.pure _))
      · rw [List.find?_cons_of_neg (by simp only [decide_eq_true_eq]; omega)]
        exact Rl.t (decide_eq_true h1) (Rl.f (by rw [decide_eq_true_eq]; exact h2) (ih (i + 1) (by omega)))
    · rw [List.find?_cons_of_neg (by simp only [decide_eq_true_eq]; omega)]
      exact Rl.f (by rw [decide_eq_true_eq]; exact h1) (ih (i + 1) (by omega))
/-- The corners of two periods from b on. -/
def corn (b s1 s2 s3 s4 : Int) : List Int := [b, b + s1, b + s1 + s2, b + s1 + s2 + s3, b + s4, b + s4 + s1, b + s4 + s1 + s2, b + s4 + s1 + s2 + s3]
theorem corn_loop {w2 : List Int} {s1 s2 s3 s4 b : Int} (r1 : w2[1]? = some s1) (r2 : w2[2]? = some s2) (r3 : w2[3]? = some s3) (r4 : w2[4]? = some s4)
    (hb : 0 ≤ b ∧ b ≤ 2000000000) (h1 : 0 ≤ s1 ∧ s1 ≤ 1000000000) (h2 : 0 ≤ s2 ∧ s2 ≤ 1000000000) (h3 : 0 ≤ s3 ∧ s3 ≤ 1000000000) (h4 : 0 ≤ s4 ∧ s4 ≤ 1000000000) :
    Rl (fun k n => Lwave_corners_0 k n w2 b 0 0 []) (8, corn b s1 s2 s3 s4) := by
  have step : ∀ (k n : Nat) (a : Int) (ls : List Int) (x : Int), (x = 0 ∨ x = 1) → ls.length ≤ 100 → 0 ≤ a ∧ a ≤ 4000000000 → Lwave_corners_0 k (n + 1) w2 a ls.length x ls = Lwave_corners_0 k n w2 (a + s4) (ls ++ [a, a + s1, a + s1 + s2, a + s1 + s2 + s3]).length (x + 1) (ls ++ [a, a + s1, a + s1 + s2, a + s1 + s2 + s3]) := by
    intro k n a ls x hx hl ha
    show Lwave_corners_0s k (Lwave_corners_0 k n) _ _ _ _ _ = _
    unfold Lwave_corners_0s
    rw [if_pos (decide_eq_true (by omega))]
    simp only [r1, r2, r3, r4, Option.bind_some]
    rw [wrap_i64 (x := a + s1) (by omega), wrap_i64 (x := a + s1 + s2) (by omega), wrap_i64 (x := a + s1 + s2 + s3) (by omega), wrap_i64 (x := a + s4) (by omega), wrap_i64 (x := x + 1) (by omega)]
    rw [if_pos (by omega), if_pos (by simp; omega)]
    simp
  refine ⟨3, fun k n hk hn => ?_⟩
  obtain ⟨n, rfl⟩ : ∃ m, n = m + 1 + 1 + 1 := ⟨n - 3, by omega⟩
  have e1 := step k (n + 1 + 1) b [] 0 (by omega) (by simp) (by omega)
  have e2 := step k (n + 1) (b + s4) [b, b + s1, b + s1 + s2, b + s1 + s2 + s3] 1 (by omega) (by simp) (by omega)
  refine e1.trans (e2.trans ?_)
  show Lwave_corners_0s k (Lwave_corners_0 k n) _ _ _ _ _ = _
  unfold Lwave_corners_0s
  exact if_neg (by decide)
/-- The corner ahead of a step, or at it, with which a period begins. -/
def baseN (s0 s4 step : Int) : Int := if step > s0 then s0 + (step - s0) / s4 * s4 else s0
/-- The least corner above a step. -/
def pulseN (b s1 s2 s3 s4 step : Int) : Int :=
  if step < b then b else if step < b + s1 then b + s1 else if step < b + s1 + s2 then b + s1 + s2 else if step < b + s1 + s2 + s3 then b + s1 + s2 + s3 else b + s4
theorem corn_first {b s1 s2 s3 s4 step : Int} (h1 : 0 ≤ s1) (h2 : 0 ≤ s2) (h3 : 0 ≤ s3) (h4 : s1 + s2 + s3 ≤ s4) (hs : step < b + s4) :
    firstN step (corn b s1 s2 s3 s4) = if pulseN b s1 s2 s3 s4 step ≤ 1000000000 then some (pulseN b s1 s2 s3 s4 step) else none := by
  unfold firstN corn pulseN
  simp only [List.find?_cons, List.find?_nil]
  repeat' split
  all_goals simp only [decide_eq_true_eq, decide_eq_false_iff_not, not_and] at *
  all_goals first | rfl | (exfalso; omega) | (congr 1; omega)
theorem base_in {s0 s4 step : Int} (h0 : 0 ≤ s0) (h4 : 0 < s4) (hs : 0 ≤ step) : 0 ≤ baseN s0 s4 step ∧ step < baseN s0 s4 step + s4 ∧ (baseN s0 s4 step ≤ step ∨ baseN s0 s4 step = s0) ∧ (s0 ≤ baseN s0 s4 step) := by
  unfold baseN
  split
  · have a := Int.emod_add_mul_ediv (step - s0) s4
    have b := Int.emod_nonneg (step - s0) (show s4 ≠ 0 by omega)
    have c := Int.emod_lt_of_pos (step - s0) h4
    have d := Int.mul_comm s4 ((step - s0) / s4)
    have e := Int.mul_nonneg (Int.ediv_nonneg (show 0 ≤ step - s0 by omega) (show 0 ≤ s4 by omega)) (show 0 ≤ s4 by omega)
    omega
  · omega
/-- What Next tells of a right wave. -/
def nextQ (w0 : Int) (w1 : List (Int × Int)) (w2 : List Int) (step : Int) : Int × Bool :=
  if w0 = 2 then tellN (if pulseN (baseN (w2.getD 0 0) (w2.getD 4 0) step) (w2.getD 1 0) (w2.getD 2 0) (w2.getD 3 0) (w2.getD 4 0) step ≤ 1000000000 then some (pulseN (baseN (w2.getD 0 0) (w2.getD 4 0) step) (w2.getD 1 0) (w2.getD 2 0) (w2.getD 3 0) (w2.getD 4 0) step) else none)
  else if w0 = 3 then tellN (firstN step w2) else if w0 = 4 then tellN (if step + 1 ≤ 1000000000 then some (step + 1) else none) else (0, false)
section
variable {w0 : Int} {w1 : List (Int × Int)} {w2 : List Int} (hw : OkW w0 w1 w2) {step : Int} (h0 : 0 ≤ step) (h1 : step ≤ 1000000000)
include hw h0 h1
theorem corners_ev (hk : w0 = 2) : Rn (fun k => Fwave_corners k w0 w1 w2 step) (corn (baseN (w2.getD 0 0) (w2.getD 4 0) step) (w2.getD 1 0) (w2.getD 2 0) (w2.getD 3 0) (w2.getD 4 0)) := by
  obtain ⟨g1, g2, g3, g4⟩ : w1.length = 2 ∧ w2.length = 5 ∧ 1 ≤ w2.getD 4 0 ∧ w2.getD 1 0 + w2.getD 2 0 + w2.getD 3 0 ≤ w2.getD 4 0 := by
    rcases hw.kind with g | g | g | g
    · omega
    · exact g.2
    · omega
    · omega
  have q0 := hw.steps 0 (by omega) (by omega)
  have q1 := hw.steps 1 (by omega) (by omega)
  have q2 := hw.steps 2 (by omega) (by omega)
  have q3 := hw.steps 3 (by omega) (by omega)
  have q4 := hw.steps 4 (by omega) (by omega)
  have r0 := getD_some (l := w2) 0 (show 0 < w2.length by omega)
  have r1 := getD_some (l := w2) 0 (show 1 < w2.length by omega)
  have r2 := getD_some (l := w2) 0 (show 2 < w2.length by omega)
  have r3 := getD_some (l := w2) 0 (show 3 < w2.length by omega)
  have r4 := getD_some (l := w2) 0 (show 4 < w2.length by omega)
  generalize w2.getD 0 0 = s0 at *
  generalize w2.getD 1 0 = s1 at *
  generalize w2.getD 2 0 = s2 at *
  generalize w2.getD 3 0 = s3 at *
  generalize w2.getD 4 0 = s4 at *
  have hb := base_in (s0 := s0) (s4 := s4) (step := step) (by omega) (by omega) h0
  refine Rn.up (f := fun k => Fwave_corners k w0 w1 w2 step) (Rn.at r0 ?_)
  by_cases c : step > s0
  · have hbe : baseN s0 s4 step = s0 + (step - s0) / s4 * s4 := by unfold baseN; rw [if_pos c]
    have ed : Int.tdiv (step - s0) s4 = (step - s0) / s4 := Int.tdiv_eq_ediv_of_nonneg (by omega)
    have en := Int.ediv_nonneg (show 0 ≤ step - s0 by omega) (show 0 ≤ s4 by omega)
    have el := Int.ediv_le_self s4 (show 0 ≤ step - s0 by omega)
    have hm : 0 ≤ (step - s0) / s4 * s4 := Int.mul_nonneg en (by omega)
    have lp := corn_loop r1 r2 r3 r4 (b := baseN s0 s4 step) (by omega) q1 q2 q3 q4
    refine Rn.t (decide_eq_true c) (Rn.at r4 (Rn.f (by omega) (Rn.at r4 ?_)))
    rw [wrap_i64 (x := step - s0) (by omega), ed, wrap_i64 (x := (step - s0) / s4) (by omega), wrap_i64 (x := (step - s0) / s4 * s4) (by omega), wrap_i64 (by omega), ← hbe]
    exact Rn.bind lp.diag (Rn.t (by simp [corn]) (Rn.const (by simp [corn])))
  · have hbe : baseN s0 s4 step = s0 := by unfold baseN; rw [if_neg c]
    have lp := corn_loop r1 r2 r3 r4 (b := baseN s0 s4 step) (by omega) q1 q2 q3 q4
    refine Rn.f (by rw [decide_eq_true_eq]; exact c) ?_
    rw [hbe] at lp ⊢
    exact Rn.bind lp.diag (Rn.t (by simp [corn]) (Rn.const (by simp [corn])))
theorem nextRight_ev : Rn (fun k => Fwave_Next k w0 w1 w2 step) (nextQ w0 w1 w2 step) := by
  have hl : w1.length ≤ 1000000000000000000 ∧ w2.length ≤ 1000000000000000000 := by
    have := hw.kind; omega
  have hv := waveValid_ev w0 w1 w2 hl.1 hl.2
  rw [okW_iff.2 hw] at hv
  refine Rn.up (f := fun k => Fwave_Next k w0 w1 w2 step) (Rn.bind hv (Rn.t (by decide) (Rn.t (by rw [decide_eq_false_iff_not]; omega) (Rn.f (by rw [decide_eq_true_eq]; omega) ?_))))
  unfold nextQ
  by_cases k2 : w0 = 2
  · rw [if_pos k2]
    obtain ⟨g1, g2, g3, g4⟩ : w1.length = 2 ∧ w2.length = 5 ∧ 1 ≤ w2.getD 4 0 ∧ w2.getD 1 0 + w2.getD 2 0 + w2.getD 3 0 ≤ w2.getD 4 0 := by
      rcases hw.kind with g | g | g | g
      · omega
      · exact g.2
      · omega
      · omega
    have q0 := hw.steps 0 (by omega) (by omega)
    have q1 := hw.steps 1 (by omega) (by omega)
    have q2 := hw.steps 2 (by omega) (by omega)
    have q3 := hw.steps 3 (by omega) (by omega)
    have hb := base_in (s0 := w2.getD 0 0) (s4 := w2.getD 4 0) (step := step) (by omega) (by omega) h0
    refine Rn.t (by rw [beq_iff_eq]; exact k2) (Rn.bind (corners_ev hw h0 h1 k2) ?_)
    rw [← corn_first q1.1 q2.1 q3.1 g4 hb.2.1]
    generalize hc : corn _ _ _ _ _ = l
    have ll : l.length = 8 := by rw [← hc]; rfl
    have lp := first_loop step l (by omega) l.length 0 (by omega)
    rw [List.drop_zero] at lp
    refine Rn.bind lp.diag ?_
    cases firstN step l <;> exact Rn.pure _
  rw [if_neg k2]
  refine Rn.f (by rw [beq_iff_eq]; exact k2) ?_
  by_cases k3 : w0 = 3
  · rw [if_pos k3]
    have lp := first_loop step w2 (by omega) w2.length 0 (by omega)
    rw [List.drop_zero] at lp
    refine Rn.t (by rw [beq_iff_eq]; exact k3) (Rn.bind lp.diag ?_)
    cases firstN step w2 <;> exact Rn.pure _
  rw [if_neg k3]
  refine Rn.f (by rw [beq_iff_eq]; exact k3) ?_
  by_cases k4 : w0 = 4
  · rw [if_pos k4]
    refine Rn.t (by rw [beq_iff_eq]; exact k4) ?_
    rw [wrap_i64 (by omega)]
    have lp : Rl (fun k n => Lwave_Next_1a k n step 1 1 0 [step + 1]) (if step + 1 ≤ 1000000000 then .inl (step + 1, true, [step + 1]) else .inr [step + 1]) := by
      refine ⟨2, fun k n hk hn => ?_⟩
      obtain ⟨n, rfl⟩ : ∃ m, n = m + 1 + 1 := ⟨n - 2, by omega⟩
      show Lwave_Next_1as k (Lwave_Next_1a k (n + 1)) _ _ _ _ _ = _
      unfold Lwave_Next_1as
      rw [if_pos (by decide), if_pos (by decide)]
      show (if decide (step + 1 > step) = true then _ else _) = _
      rw [if_pos (decide_eq_true (by omega))]
      by_cases c : step + 1 ≤ 1000000000
      · rw [if_pos (decide_eq_true c), if_pos c]
      · rw [if_neg (by rw [decide_eq_true_eq]; exact c), if_neg c]
        show Lwave_Next_1as k (Lwave_Next_1a k n) _ _ _ _ _ = _
        unfold Lwave_Next_1as
        exact if_neg (by decide)
    refine Rn.bind lp.diag ?_
    by_cases c : step + 1 ≤ 1000000000
    · rw [if_pos c, if_pos c]; exact Rn.pure _
    · rw [if_neg c, if_neg c]; exact Rn.pure _
  rw [if_neg k4]
  refine Rn.f (by rw [beq_iff_eq]; exact k4) ?_
  have lp : Rl (fun k n => Lwave_Next_1a k n step 0 0 0 []) (.inr []) := by
    refine Rl.up (f := fun k n => Lwave_Next_1a k n step 0 0 0 []) (Rl.of 0 fun k n _ => ?_)
    show Lwave_Next_1as k (Lwave_Next_1a k n) _ _ _ _ _ = _
    unfold Lwave_Next_1as
    exact if_neg (by decide)
  exact Rn.bind lp.diag (Rn.pure _)
end
end Go.Proofs.Ytbhnafdmilfobaa.Am

/- Plain reckoning: where corners lie, and lines between them. -/
set_option linter.unusedVariables false
set_option linter.unusedSectionVars false
set_option linter.unusedSimpArgs false
set_option maxRecDepth 10000
namespace Go.Proofs.Ytbhnafdmilfobaa.Am
open Go
theorem kind2 {w0 : Int} {w1 : List (Int × Int)} {w2 : List Int} (ok : OkW w0 w1 w2) (h : w0 = 2) : w1.length = 2 ∧ w2.length = 5 ∧ 1 ≤ w2.getD 4 0 ∧ w2.getD 1 0 + w2.getD 2 0 + w2.getD 3 0 ≤ w2.getD 4 0 := by
  rcases ok.kind with g | g | g | g
  · omega
  · exact g.2
  · omega
  · omega
theorem steps_le {w0 : Int} {w1 : List (Int × Int)} {w2 : List Int} (ok : OkW w0 w1 w2) : ∀ x ∈ w2, x ≤ 1000000000 := by
  intro x hx
  obtain ⟨i, hi, rfl⟩ := List.mem_iff_getElem.1 hx
  have := (ok.steps i (by omega) hi).2
  simpa [List.getD, hi] using this
theorem first_some {step n : Int} {l : List Int} (h : firstN step l = some n) : step < n ∧ n ≤ 1000000000 := by
  have := List.find?_some h
  simpa using this
theorem first_keep {step n m : Int} : ∀ {l : List Int}, (∀ x ∈ l, x ≤ 1000000000) → firstN step l = some n → step ≤ m → m < n → firstN m l = some n
  | [], _, h, _, _ => by simp [firstN] at h
  | x :: l, hl, h, h1, h2 => by
    have hx := hl x (by simp)
    unfold firstN at h ⊢
    by_cases c : step < x
    · rw [List.find?_cons_of_pos (by exact decide_eq_true ⟨c, hx⟩)] at h
      obtain rfl : x = n := by simpa using h
      rw [List.find?_cons_of_pos (by exact decide_eq_true ⟨h2, hx⟩)]
    · rw [List.find?_cons_of_neg (by simp only [decide_eq_true_eq]; omega)] at h
      rw [List.find?_cons_of_neg (by simp only [decide_eq_true_eq]; omega)]
      exact first_keep (fun y hy => hl y (by simp [hy])) h h1 h2
theorem up_same {s t : Int} (hst : s ≤ t) : ∀ {l : List Int}, (∀ x ∈ l, x ≤ 1000000000) → (∀ n, firstN s l = some n → t < n) → upI t l = upI s l
  | [], _, _ => rfl
  | x :: l, hl, h => by
    have hx := hl x (by simp)
    unfold firstN at h
    unfold upI
    by_cases c : s < x
    · rw [List.find?_cons_of_pos (by exact decide_eq_true ⟨c, hx⟩)] at h
      have := h x rfl
      rw [if_neg (by omega), if_neg (by omega)]
    · rw [List.find?_cons_of_neg (by simp only [decide_eq_true_eq]; omega)] at h
      rw [if_pos (by omega), if_pos (by omega), up_same hst (fun y hy => hl y (by simp [hy])) h]
theorem base_q {s0 s4 step : Int} (h4 : 0 < s4) : ∃ q, 0 ≤ q ∧ baseN s0 s4 step = s0 + q * s4 := by
  unfold baseN
  split
  · exact ⟨(step - s0) / s4, Int.ediv_nonneg (by omega) (by omega), rfl⟩
  · exact ⟨0, by omega, by omega⟩
theorem base_keep {s0 s4 step m : Int} (h0 : 0 ≤ s0) (h4 : 0 < s4) (hs : 0 ≤ step) (h1 : step ≤ m) (h2 : m < baseN s0 s4 step + s4) (h3 : m < baseN s0 s4 step → baseN s0 s4 step = s0) : baseN s0 s4 m = baseN s0 s4 step := by
  obtain ⟨q, hq, e⟩ := base_q (s0 := s0) (s4 := s4) (step := step) h4
  have hb := base_in (step := step) h0 h4 hs
  generalize hB : baseN s0 s4 step = b at *
  have hm := Int.mul_nonneg hq (show 0 ≤ s4 by omega)
  unfold baseN
  split
  · have hbm : b ≤ m := by
      rcases Int.lt_or_le m b with g | g
      · have := h3 g; omega
      · exact g
    have e2 : m - s0 = (m - b) + q * s4 := by omega
    rw [e2, Int.add_mul_ediv_right _ _ (by omega), Int.ediv_eq_zero_of_lt (by omega) (by omega), Int.zero_add]
    omega
  · rcases Int.lt_or_le m b with g | g
    · exact (h3 g).symm
    · omega
theorem pulseN_ok {b s1 s2 s3 s4 step : Int} (h1 : 0 ≤ s1) (h2 : 0 ≤ s2) (h3 : 0 ≤ s3) (h4 : s1 + s2 + s3 ≤ s4) (hs : step < b + s4) :
    step < pulseN b s1 s2 s3 s4 step ∧ pulseN b s1 s2 s3 s4 step ≤ b + s4 ∧ (step < b → pulseN b s1 s2 s3 s4 step = b) ∧ ∀ m, step ≤ m → m < pulseN b s1 s2 s3 s4 step → pulseN b s1 s2 s3 s4 m = pulseN b s1 s2 s3 s4 step := by
  unfold pulseN
  refine ⟨?_, ?_, ?_, ?_⟩
  · repeat' split
    all_goals omega
  · repeat' split
    all_goals omega
  · intro h; rw [if_pos h]
  · intro m a b
    repeat' split
    all_goals first | rfl | (exfalso; (repeat' split at b) <;> omega)
theorem tell_t {o : Option Int} (h : (tellN o).2 = true) : ∃ n, o = some n ∧ (tellN o).1 = n := by
  cases o with
  | none => simp [tellN] at h
  | some n => exact ⟨n, rfl, rfl⟩
theorem ifs_some {c : Prop} [Decidable c] {x n : Int} (h : (if c then some x else none) = some n) : c ∧ x = n := by
  by_cases g : c
  · rw [if_pos g] at h; exact ⟨g, by simpa using h⟩
  · rw [if_neg g] at h; cases h
theorem next_t {w0 : Int} {w1 : List (Int × Int)} {w2 : List Int} (ok : OkW w0 w1 w2) {step : Int} (h0 : 0 ≤ step) (h : (nextQ w0 w1 w2 step).2 = true) :
    step < (nextQ w0 w1 w2 step).1 ∧ (nextQ w0 w1 w2 step).1 ≤ 1000000000 ∧ w0 ≠ 1 ∧ ∀ m, step ≤ m → m < (nextQ w0 w1 w2 step).1 → nextQ w0 w1 w2 m = ((nextQ w0 w1 w2 step).1, true) := by
  by_cases k2 : w0 = 2
  · have hn : ∀ s, nextQ w0 w1 w2 s = _ := fun s => by unfold nextQ; rw [if_pos k2]
    simp only [hn] at h ⊢
    obtain ⟨g1, g2, g3, g4⟩ := kind2 ok k2
    have q0 := ok.steps 0 (by omega) (by omega)
    have q1 := ok.steps 1 (by omega) (by omega)
    have q2 := ok.steps 2 (by omega) (by omega)
    have q3 := ok.steps 3 (by omega) (by omega)
    obtain ⟨n, hn1, hn2⟩ := tell_t h
    obtain ⟨p1, p2⟩ := ifs_some hn1
    rw [hn2]
    have hb := base_in (s0 := w2.getD 0 0) (s4 := w2.getD 4 0) (step := step) (by omega) (by omega) h0
    obtain ⟨o1, o2, o3, o4⟩ := pulseN_ok q1.1 q2.1 q3.1 g4 hb.2.1
    rw [p2] at o1 o2 o3 o4 p1
    refine ⟨o1, p1, by omega, fun m m1 m2 => ?_⟩
    have hbk := base_keep (s0 := w2.getD 0 0) (s4 := w2.getD 4 0) (m := m) q0.1 (by omega) h0 m1 (by omega) (fun g => by
      by_cases c : step < baseN (w2.getD 0 0) (w2.getD 4 0) step
      · omega
      · omega)
    rw [hbk, o4 m m1 m2, if_pos p1]
    rfl
  by_cases k3 : w0 = 3
  · have hn : ∀ s, nextQ w0 w1 w2 s = tellN (firstN s w2) := fun s => by unfold nextQ; rw [if_neg k2, if_pos k3]
    simp only [hn] at h ⊢
    obtain ⟨n, hn1, hn2⟩ := tell_t h
    rw [hn2]
    have := first_some hn1
    refine ⟨this.1, this.2, by omega, fun m m1 m2 => ?_⟩
    rw [first_keep (steps_le ok) hn1 m1 m2]
    rfl
  by_cases k4 : w0 = 4
  · have hn : ∀ s, nextQ w0 w1 w2 s = tellN (if s + 1 ≤ 1000000000 then some (s + 1) else none) := fun s => by unfold nextQ; rw [if_neg k2, if_neg k3, if_pos k4]
    simp only [hn] at h ⊢
    obtain ⟨n, hn1, hn2⟩ := tell_t h
    obtain ⟨p1, p2⟩ := ifs_some hn1
    rw [hn2]
    refine ⟨by omega, by omega, by omega, fun m m1 m2 => ?_⟩
    have : m = step := by omega
    subst this
    rw [hn1]; rfl
  · unfold nextQ at h
    rw [if_neg k2, if_neg k3, if_neg k4] at h
    cases h
end Go.Proofs.Ytbhnafdmilfobaa.Am

/- The law WaveStraight in plain words. -/
set_option linter.unusedVariables false
set_option linter.unusedSectionVars false
set_option linter.unusedSimpArgs false
set_option maxRecDepth 10000
namespace Go.Proofs.Ytbhnafdmilfobaa.Am
open Go
theorem div_int (n : Int) : Rat.divInt n 1 = (n : Rat) := Rat.num_divInt_den (n : Rat)
theorem nQ_half (q : Rat) : q * Rat.divInt 1000000000 1 - (nQ q : Rat) ≤ 1 / 2 ∧ -(1 / 2) ≤ q * Rat.divInt 1000000000 1 - (nQ q : Rat) := by
  unfold nQ
  generalize q * Rat.divInt 1000000000 1 = x
  have dx := Rat.den_pos' x
  obtain ⟨n1, n2, n3⟩ := near_half x.num x.den dx
  have hdiff : x - Rat.divInt (nearI x.num x.den) 1 = Rat.divInt (x.num - nearI x.num x.den * x.den) x.den := by
    have h := Rat.divInt_sub_divInt x.num (nearI x.num x.den) (d₁ := (x.den : Int)) (d₂ := 1) (by omega) (by decide)
    rw [Rat.num_divInt_den, Int.mul_one, Int.mul_one] at h
    exact h
  have le1 := (dle (a := x.num - nearI x.num x.den * x.den) (c := 1) (d := 2) dx (by decide)).2 (by omega)
  have le2 := (dle (a := -1) (b := 2) (c := x.num - nearI x.num x.den * x.den) (d := x.den) (by decide) dx).2 (by omega)
  rw [← hdiff, div_int] at le1 le2
  have z1 : Rat.divInt 1 2 = 1 / 2 := by decide +kernel
  have z2 : Rat.divInt (-1) 2 = -(1 / 2) := by decide +kernel
  rw [z1] at le1
  rw [z2] at le2
  exact ⟨le1, le2⟩
theorem near_line {x y z : Rat} (h : x + z = 2 * y) : -2 ≤ 2 * nQ y - nQ x - nQ z ∧ 2 * nQ y - nQ x - nQ z ≤ 2 := by
  obtain ⟨a1, a2⟩ := nQ_half x
  obtain ⟨b1, b2⟩ := nQ_half y
  obtain ⟨c1, c2⟩ := nQ_half z
  generalize Rat.divInt 1000000000 1 = N at *
  have e : x * N + z * N = 2 * (y * N) := by rw [← Rat.add_mul, h, Rat.mul_assoc]
  have hc : ((2 * nQ y - nQ x - nQ z : Int) : Rat) = 2 * (nQ y : Rat) - (nQ x : Rat) - (nQ z : Rat) := by
    simp [Rat.intCast_sub, Rat.intCast_mul]
  constructor
  · have : ((-2 : Int) : Rat) ≤ ((2 * nQ y - nQ x - nQ z : Int) : Rat) := by
      rw [hc, show ((-2 : Int) : Rat) = -2 from rfl]
      grind
    exact Rat.intCast_le_intCast.1 this
  · have : ((2 * nQ y - nQ x - nQ z : Int) : Rat) ≤ ((2 : Int) : Rat) := by
      rw [hc, show ((2 : Int) : Rat) = 2 from rfl]
      grind
    exact Rat.intCast_le_intCast.1 this
theorem mix_line (a b : Rat) (k n : Int) : mixQ a b (k - 1) n + mixQ a b (k + 1) n = 2 * mixQ a b k n := by
  unfold mixQ
  rw [Rat.divInt_eq_div, Rat.divInt_eq_div, Rat.divInt_eq_div, Rat.div_def, Rat.div_def, Rat.div_def, Rat.intCast_sub, Rat.intCast_add]
  generalize (n : Rat)⁻¹ = m
  generalize (k : Rat) = c
  have o : ((1 : Int) : Rat) = 1 := rfl
  rw [o]
  grind
theorem two_same (x : Rat) : x + x = 2 * x := by grind
theorem at_line {w0 : Int} {w1 : List (Int × Int)} {w2 : List Int} (ok : OkW w0 w1 w2) (k4 : w0 ≠ 4) {step : Int} (h0 : 1 ≤ step) (h1 : step < 1000000000) (hn : (nextQ w0 w1 w2 (step - 1)).2 = true → step + 1 < (nextQ w0 w1 w2 (step - 1)).1) :
    atQ w0 w1 w2 (step - 1) + atQ w0 w1 w2 (step + 1) = 2 * atQ w0 w1 w2 step := by
  have hk := ok.kind
  by_cases k1 : w0 = 1
  · unfold atQ; rw [if_pos k1, if_pos k1, if_pos k1]; exact two_same _
  by_cases k2 : w0 = 2
  · have ha : ∀ s, atQ w0 w1 w2 s = pulseQ (valQ w1 0) (valQ w1 1) (w2.getD 0 0) (w2.getD 1 0) (w2.getD 2 0) (w2.getD 3 0) (w2.getD 4 0) s := fun s => by
      unfold atQ; rw [if_neg k1, if_pos k2]
    rw [ha, ha, ha]
    unfold nextQ at hn
    rw [if_pos k2] at hn
    obtain ⟨g1, g2, g3, g4⟩ := kind2 ok k2
    have q0 := ok.steps 0 (by omega) (by omega)
    have q1 := ok.steps 1 (by omega) (by omega)
    have q2 := ok.steps 2 (by omega) (by omega)
    have q3 := ok.steps 3 (by omega) (by omega)
    generalize w2.getD 0 0 = s0 at *
    generalize w2.getD 1 0 = s1 at *
    generalize w2.getD 2 0 = s2 at *
    generalize w2.getD 3 0 = s3 at *
    generalize w2.getD 4 0 = s4 at *
    obtain ⟨q, hq, e⟩ := base_q (s0 := s0) (s4 := s4) (step := step - 1) (by omega)
    have hb := base_in (s0 := s0) (s4 := s4) (step := step - 1) (by omega) (by omega) (by omega)
    generalize baseN s0 s4 (step - 1) = b at *
    have hN : step + 1 < pulseN b s1 s2 s3 s4 (step - 1) := by
      by_cases c : pulseN b s1 s2 s3 s4 (step - 1) ≤ 1000000000
      · rw [if_pos c] at hn
        exact hn rfl
      · omega
    have hmod : ∀ s, b ≤ s → s < b + s4 → (s - s0) % s4 = s - b := fun s c1 c2 => by
      have e2 : s - s0 = (s - b) + q * s4 := by omega
      rw [e2, Int.add_mul_emod_self_right, Int.emod_eq_of_lt (by omega) (by omega)]
    unfold pulseN at hN
    by_cases c0 : step - 1 < b
    · rw [if_pos c0] at hN
      unfold pulseQ
      rw [if_pos (show step - 1 < s0 by omega), if_pos (show step + 1 < s0 by omega), if_pos (show step < s0 by omega)]
      exact two_same _
    rw [if_neg c0] at hN
    have hlt : step + 1 < b + s4 := by
      repeat' split at hN
      all_goals omega
    unfold pulseQ
    rw [if_neg (show ¬ step - 1 < s0 by omega), if_neg (show ¬ step + 1 < s0 by omega), if_neg (show ¬ step < s0 by omega), hmod (step - 1) (by omega) (by omega), hmod (step + 1) (by omega) (by omega), hmod step (by omega) (by omega)]
    by_cases c1 : step - 1 < b + s1
    · rw [if_pos c1] at hN
      rw [if_pos (show step - 1 - b < s1 by omega), if_pos (show step + 1 - b < s1 by omega), if_pos (show step - b < s1 by omega)]
      rw [show step - 1 - b = step - b - 1 by omega, show step + 1 - b = step - b + 1 by omega]
      exact mix_line _ _ _ _
    rw [if_neg c1] at hN
    rw [if_neg (show ¬ step - 1 - b < s1 by omega), if_neg (show ¬ step + 1 - b < s1 by omega), if_neg (show ¬ step - b < s1 by omega)]
    by_cases c2 : step - 1 < b + s1 + s2
    · rw [if_pos c2] at hN
      rw [if_pos (show step - 1 - b < s1 + s2 by omega), if_pos (show step + 1 - b < s1 + s2 by omega), if_pos (show step - b < s1 + s2 by omega)]
      exact two_same _
    rw [if_neg c2] at hN
    rw [if_neg (show ¬ step - 1 - b < s1 + s2 by omega), if_neg (show ¬ step + 1 - b < s1 + s2 by omega), if_neg (show ¬ step - b < s1 + s2 by omega)]
    by_cases c3 : step - 1 < b + s1 + s2 + s3
    · rw [if_pos c3] at hN
      rw [if_pos (show step - 1 - b < s1 + s2 + s3 by omega), if_pos (show step + 1 - b < s1 + s2 + s3 by omega), if_pos (show step - b < s1 + s2 + s3 by omega)]
      rw [show step - 1 - b - s1 - s2 = step - b - s1 - s2 - 1 by omega, show step + 1 - b - s1 - s2 = step - b - s1 - s2 + 1 by omega]
      exact mix_line _ _ _ _
    rw [if_neg (show ¬ step - 1 - b < s1 + s2 + s3 by omega), if_neg (show ¬ step + 1 - b < s1 + s2 + s3 by omega), if_neg (show ¬ step - b < s1 + s2 + s3 by omega)]
    exact two_same _
  have k3 : w0 = 3 := by omega
  have ha : ∀ s, atQ w0 w1 w2 s = pwlQ w1 w2 s (upI s w2) := fun s => by
    unfold atQ; rw [if_neg k1, if_neg k2, if_pos k3]
  rw [ha, ha, ha]
  unfold nextQ at hn
  rw [if_neg k2, if_pos k3] at hn
  have hf : ∀ n, firstN (step - 1) w2 = some n → step + 1 < n := fun n h => by rw [h] at hn; exact hn rfl
  rw [up_same (s := step - 1) (t := step + 1) (by omega) (steps_le ok) hf, up_same (s := step - 1) (t := step) (by omega) (steps_le ok) (fun n h => by have := hf n h; omega)]
  unfold pwlQ
  split
  · exact two_same _
  split
  · exact two_same _
  · generalize upI (step - 1) w2 - 1 = j
    rw [show step - 1 - w2.getD j 0 = step - w2.getD j 0 - 1 by omega, show step + 1 - w2.getD j 0 = step - w2.getD j 0 + 1 by omega]
    exact mix_line _ _ _ _
theorem pure_WaveStraight (w : Int × List (Int × Int) × List Int) (step : Int) (ww : Wfd cdW w) (ws : Wfd (.int .i64) step) : ∃ k, Fshuntlaw04_WaveStraight k w.1 w.2.1 w.2.2 step = some true := by
  obtain ⟨l1, l2⟩ := wlen ww
  obtain ⟨w0, w1, w2⟩ := w
  dsimp only at l1 l2 ⊢
  suffices h : Rn (fun k => Fshuntlaw04_WaveStraight k w0 w1 w2 step) true from h.get
  refine Rn.up (f := fun k => Fshuntlaw04_WaveStraight k w0 w1 w2 step) (Rn.bind awake4_ev (Rn.f (by decide) (Rn.bind (waveRef_ev w0 w1 w2 l1 l2) ?_)))
  by_cases hw : okW w0 w1 w2 = true
  rotate_left
  · exact Rn.f (by simp [hw]) (Rn.pure _)
  refine Rn.t (by simp [hw]) ?_
  have ok := okW_iff.1 hw
  by_cases k4 : w0 = 4
  · exact Rn.f (by simp [k4]) (Rn.pure _)
  refine Rn.t (by simpa using k4) ?_
  by_cases c1 : step < 1
  · exact Rn.f (by rw [decide_eq_false_iff_not]; omega) (Rn.pure _)
  refine Rn.t (by rw [decide_eq_false_iff_not]; omega) ?_
  by_cases c2 : step ≥ 1000000000
  · exact Rn.t (by rw [decide_eq_true_eq]; omega) (Rn.pure _)
  refine Rn.f (by rw [decide_eq_true_eq]; omega) ?_
  rw [wrap_i64 (x := step - 1) (by omega), wrap_i64 (x := step + 1) (by omega)]
  refine Rn.bind (nextRight_ev ok (step := step - 1) (by omega) (by omega)) ?_
  have tail : ((nextQ w0 w1 w2 (step - 1)).2 = true → step + 1 < (nextQ w0 w1 w2 (step - 1)).1) → Rn (fun k => Option.bind (Fwave_At k w0 w1 w2 (step - 1)) fun r3 =>
          Option.bind (Fwave_At k w0 w1 w2 step) fun r4 =>
          Option.bind (Fwave_At k w0 w1 w2 (step + 1)) fun r5 =>
          if ((r3.2 != (0 : Int)) = false) then
            if ((r4.2 != (0 : Int)) = false) then
              if ((r5.2 != (0 : Int)) = true) then
                if ((r3.2 == (4 : Int)) = false) then
                  if ((r4.2 == (4 : Int)) = false) then
                    (some (r5.2 == (4 : Int)))
                  else
                  (some true)
                else
                (some true)
              else
              if ((decide ((IntKind.wrap .i64 ((IntKind.wrap .i64 ((IntKind.wrap .i64 ((2 : Int) * r4.1)) - r3.1)) - r5.1)) ≥ (-(2 : Int)))) = true) then
                (some (decide ((IntKind.wrap .i64 ((IntKind.wrap .i64 ((IntKind.wrap .i64 ((2 : Int) * r4.1)) - r3.1)) - r5.1)) ≤ (2 : Int))))
              else
              (some false)
            else
            if ((r3.2 == (4 : Int)) = false) then
              if ((r4.2 == (4 : Int)) = false) then
                (some (r5.2 == (4 : Int)))
              else
              (some true)
            else
            (some true)
          else
          if ((r3.2 == (4 : Int)) = false) then
            if ((r4.2 == (4 : Int)) = false) then
              (some (r5.2 == (4 : Int)))
            else
            (some true)
          else
          (some true)) true := by
    intro hn
    refine Rn.bind (atRight_ev ok (by omega) (by omega)) (Rn.bind (atRight_ev ok (by omega) (by omega)) (Rn.bind (atRight_ev ok (by omega) (by omega)) ?_))
    have hl := near_line (at_line ok k4 (by omega) (by omega) hn)
    rw [gridR_eq, gridR_eq, gridR_eq]
    generalize nQ (atQ w0 w1 w2 (step - 1)) = x at *
    generalize nQ (atQ w0 w1 w2 step) = y at *
    generalize nQ (atQ w0 w1 w2 (step + 1)) = z at *
    refine Rn.eq 0 fun k _ => ?_
    by_cases cx : -1000000000000000000 ≤ x ∧ x ≤ 1000000000000000000 <;> by_cases cy : -1000000000000000000 ≤ y ∧ y ≤ 1000000000000000000 <;> by_cases cz : -1000000000000000000 ≤ z ∧ z ≤ 1000000000000000000
    all_goals first | rw [if_pos cx] | rw [if_neg cx]
    all_goals first | rw [if_pos cy] | rw [if_neg cy]
    all_goals first | rw [if_pos cz] | rw [if_neg cz]
    all_goals try rfl
    dsimp only
    rw [wrap_i64 (x := 2 * y) (by omega), wrap_i64 (x := 2 * y - x) (by omega), wrap_i64 (x := 2 * y - x - z) (by omega)]
    rw [if_pos (by decide), if_pos (by decide), if_neg (by decide), if_pos (decide_eq_true (by omega)), decide_eq_true (by omega)]
  by_cases ht : (nextQ w0 w1 w2 (step - 1)).2 = true
  · refine Rn.t ht ?_
    obtain ⟨n1, _⟩ := next_t ok (by omega) ht
    by_cases c : (nextQ w0 w1 w2 (step - 1)).1 ≤ step + 1
    · exact Rn.t (decide_eq_true c) (Rn.const (by rw [decide_eq_true (by omega)]))
    · exact Rn.f (by rw [decide_eq_true_eq]; exact c) (tail fun _ => by omega)
  · exact Rn.f ht (tail fun h => absurd h ht)
end Go.Proofs.Ytbhnafdmilfobaa.Am

/- The law WaveStraight returns true for every input, and its arguments read as they did. -/
namespace Go.Proofs.Ytbhnafdmilfobaa.waveStraight
open Go.ChangeShapes Go.WideShapes Go.ChangeAt Go.RowKit
open Go.Proofs.Ytbhnafdmilfobaa.Am
set_option linter.unusedVariables false
theorem own : ownKnob Try.prog.godebug = none := by kernel_rfl
theorem laidOut : laidOutB Try.prog = true := by kernel_rfl
set_option maxRecDepth 100000 in
theorem lifted (os : Os) (started : os.Started) (H : Type) (enc : TypeId × Value → H) :
    ReturnsInHanded {} Try.checked os 4 .any (Rows.waveStraightSpec.pre6 enc Try.prog Try.f4 Rows.waveStraightRow.domain false) (Rows.waveStraightSpec.post enc Try.prog Try.f4 false true false false) := by
  refine returnsInHanded_of_change_sized (C := Try.checked) own started (by kernel_rfl) Try.func4
    (ChangeSpec.witness6 (enc := enc) (C := Try.checked) false ⟨#[], #[.agg #[.int .i64 0, .slice none 0 0, .slice none 0 0], .int .i64 0], []⟩ 8 (by kernel_rfl) (by kernel_rfl) (by kernel_rfl) (by kernel_rfl)) ?_
  intro W base args ds gs before hval0 hW hcnd hsz0 _
  have hval : ∀ (j : Nat) t v, Try.f4.params[j]? = some t → args[j]? = some v → Value.okWide Try.prog W .any base t v := hval0
  have hW' := hW
  obtain ⟨p, q, hA0, hV, rfl, hfz, hnd⟩ := hW
  have hA : DataW.TrodAll enc Try.prog W 0 (fun _ => true) true Try.f4.params.toList args.toList ds p := hA0
  rw [Try.params4] at hA hval
  obtain ⟨v0, vs0, d0, ds0, p0, q0, hargs, rfl, rfl, h0, r0⟩ := trodAll_cons hA
  obtain ⟨v1, vs1, d1, ds1, p1, q1, rfl, rfl, rfl, h1, r1⟩ := trodAll_cons r0
  obtain ⟨rfl, rfl, rfl⟩ := trodAll_nil r1
  obtain rfl : args = #[v0, v1] := by cases args; simp_all
  obtain ⟨rfl, rfl⟩ := trodVars_none hV
  rw [Try.params4] at hsz0
  obtain ⟨hz0, hs0⟩ := sized_cons hsz0
  obtain ⟨hz1, hs1⟩ := sized_cons hs0
  have lt0 : ∀ x ∈ p0, x.block < W.heap.size := by obtain ⟨m, hm⟩ := h0; exact DataW.trod_lt m _ _ _ hm
  obtain ⟨y0, rv0, nm0, wf0⟩ := open_cd (d := 9) (c := (.pr (.int .i64) (.pr (.sl (.pr (.int .i64) (.int .i64))) (.sl (.int .i64))))) true (by kernel_rfl) (by kernel_rfl) (by kernel_rfl) (hval 0 40 v0 rfl rfl) h0 hz0
  have lt1 : ∀ x ∈ p1, x.block < W.heap.size := by obtain ⟨m, hm⟩ := h1; exact DataW.trod_lt m _ _ _ hm
  obtain ⟨y1, rv1, nm1, wf1⟩ := open_cd (d := 9) (c := (.int .i64)) false (by kernel_rfl) (by kernel_rfl) (by kernel_rfl) (hval 1 3 v1 rfl rfl) h1 hz1
  clear hA0 hval0
  obtain ⟨k, hk⟩ := pure_WaveStraight y0 y1 wf0 wf1
  refine (law_inst cfg_ok (okshuntlaw04_WaveStraight k) (x := (y0.1, y0.2.1, y0.2.2, y1)) (y := true) hk rfl (args := [argV true (.pr (.int .i64) (.pr (.sl (.pr (.int .i64) (.int .i64))) (.sl (.int .i64)))) y0, argV false (.int .i64) y1]) rfl (rvs_cons rv0 (rvs_cons rv1 rvs_nil)) (names_cons nm0 (names_cons nm1 rfl))).mono fun e W' ⟨he, bel⟩ => ?_
  subst he
  exact ⟨_, rfl, _, _, _, [], _, [], hW', trodAll_mk1 (shut_bool Try.underlying4 _), (trodAll_cons_mk (Below.trod laidOut (by kernel_rfl) (of_decide_eq_true (by kernel_rfl)) h0 bel lt0) (trodAll_cons_mk (Below.trod laidOut (by kernel_rfl) (of_decide_eq_true (by kernel_rfl)) h1 bel lt1) trodAll_mk0)), rfl, bel.frame _, fun h => by cases h⟩
theorem over : Rows.waveStraightRow.holds Try.pinned (OpenSpec.ofChange Rows.waveStraightSpec) :=
  OpenClaim.holds_of_wide 4 Try.f4 rfl rfl rfl rfl rfl rfl rfl ⟨rfl, rfl, rfl, rfl, rfl⟩ rfl rfl rfl rfl rfl (by kernel_rfl) Try.func4 (by kernel_rfl)
    (of_decide_eq_true (by kernel_rfl)) (by unfold Func.isWrapper; first | (rw [if_pos (by decide +kernel)]; kernel_rfl) | (rw [if_neg (by decide +kernel)]; exact ⟨rfl, rfl⟩))
    (fun os started H enc _ => lifted os started H enc)
theorem proved : Rows.WaveStraightSaid := over
#print axioms proved
end Go.Proofs.Ytbhnafdmilfobaa.waveStraight
namespace Go.Proofs.Ytbhnafdmilfobaa
/-- The row, under a short name, for the claim. -/
theorem waveStraight_holds : Rows.WaveStraightSaid := waveStraight.proved
end Go.Proofs.Ytbhnafdmilfobaa
