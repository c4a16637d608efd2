/- Parse after Text, and Text after Parse: the plain statement. -/
import Derived.Test.YtghdpmejgonjmaaPuReads
set_option linter.unusedVariables false
set_option linter.unusedSimpArgs false
set_option maxRecDepth 10000
namespace Go.Proofs.Ytghdpmejgonjmaa.Am
open Go
theorem hn_snoc (c : Int) : ∀ (l : List Int) (a : Int), hn a (l ++ [c]) = hn a l * 10 + (c - 48) := by
  intro l
  induction l with
  | nil => intro a; rfl
  | cons x l ih => intro a; exact ih _
theorem hn_sg : ∀ (l : List Int), hn 0 (sg l).reverse = V 10 l := by
  intro l
  induction l with
  | nil => rfl
  | cons x l ih =>
    have e : (sg (x :: l)).reverse = (sg l).reverse ++ [48 + x] := by simp [sg]
    rw [e, hn_snoc, ih]
    simp only [V]
    omega
theorem bytesOf_byt (s : ByteArray) : bytesOf (byt s) = s := by
  refine ByteArray.ext ?_
  simp [bytesOf, byt, Function.comp_def]
theorem byt_bytesOf {m : List Int} (h : Dg 256 m) : byt (bytesOf m) = m := by
  unfold byt bytesOf
  simp only [List.toList_toArray, List.map_map]
  conv => rhs; rw [← List.map_id m]
  refine List.map_congr_left fun x hx => ?_
  have hb := h x hx
  show (((UInt8.ofNat x.toNat).toNat : Nat) : Int) = x
  rw [UInt8.toNat_ofNat']
  omega
theorem sg_dg {l : List Int} (h : Dg 10 l) : Dc (sg l).reverse := by
  intro x hx
  rw [List.mem_reverse] at hx
  obtain ⟨y, hy, rfl⟩ := List.mem_map.1 hx
  have := h y hy
  omega
theorem Dc.dg {l : List Int} (h : Dc l) : Dg 256 l := fun x hx => by have := h x hx; omega
theorem pow_bd3 (n : Nat) : W ^ n ≤ 10 ^ (10 * n) := by
  induction n with
  | zero => decide
  | succ n ih =>
    rw [Int.pow_succ, show 10 * (n + 1) = 10 * n + 10 by omega, Int.pow_add]
    have h1 : (0 : Int) < 10 ^ (10 * n) := Int.pow_pos (by decide)
    have h2 : W ^ n * W ≤ 10 ^ (10 * n) * W := Int.mul_le_mul_of_nonneg_right ih (by decide)
    have h3 : (10 : Int) ^ (10 * n) * W ≤ 10 ^ (10 * n) * 10 ^ 10 := Int.mul_le_mul_of_nonneg_left (by decide) (by omega)
    omega
/-- A number's text reads as the number. -/
theorem Tx.reads {z : Int} {t : ByteArray} (h : Tx z t) (hz : z.natAbs < W ^ 72) : Pgd (byt t) ∧ Pz (byt t) = z ∧ (byt t).length ≤ 1024 := by
  by_cases h0 : z = 0
  · have e : byt t = [48] := by
      rw [h.nz h0]
      exact byt_bytesOf (Dg.cons (by decide) Dg.nil)
    have hpd : Pd [48] = [48] := if_neg (by decide)
    rw [e]
    refine ⟨⟨?_, ?_, ?_⟩, ?_, by decide⟩
    · rw [hpd]; simp
    · intro _; rfl
    · rw [hpd]; decide
    · rw [h0]; exact (if_neg (by decide)).trans (by rw [hpd]; rfl)
  · obtain ⟨l, c, v, e⟩ := h.ex h0
    have hl0 : l ≠ [] := by rintro rfl; simp [V] at v; omega
    have hlen : l.length ≤ 10 * 72 := (c.len_le (by decide) _).2 (by have := pow_bd3 72; omega)
    obtain hln | ⟨m, x, rfl, hx0⟩ := (Cn.last c.1).1 c.2
    · exact absurd hln hl0
    have hxb := c.1 x (by simp)
    have hd := sg_dg c.1
    have hrev : (sg (m ++ [x])).reverse = (48 + x) :: (sg m).reverse := by simp [sg]
    have hs := hn_sg (m ++ [x])
    have hsl : (sg (m ++ [x])).reverse.length = (m ++ [x]).length := by rw [List.length_reverse, sg_len]
    by_cases hneg : z < 0
    · rw [if_pos hneg] at e
      have e2 : byt t = 45 :: (sg (m ++ [x])).reverse := by
        rw [e]
        exact byt_bytesOf (Dg.cons (by decide) hd.dg)
      have hpd : Pd (45 :: (sg (m ++ [x])).reverse) = (sg (m ++ [x])).reverse := if_pos rfl
      rw [e2]
      refine ⟨⟨?_, ?_, ?_⟩, ?_, by rw [List.length_cons, hsl]; omega⟩
      · rw [hpd, hrev]; simp
      · rw [hpd, hrev]; intro h; have := Option.some.inj h; omega
      · rw [hpd]; exact hd
      · refine (if_pos rfl).trans ?_
        rw [hpd, hs, v]; omega
    · rw [if_neg hneg, List.nil_append] at e
      have e2 : byt t = (sg (m ++ [x])).reverse := by
        rw [e]
        exact byt_bytesOf hd.dg
      have hno : ¬ ((sg (m ++ [x])).reverse)[0]? = some 45 := by rw [hrev]; intro h; have := Option.some.inj h; omega
      have hpd : Pd (sg (m ++ [x])).reverse = (sg (m ++ [x])).reverse := if_neg hno
      rw [e2]
      refine ⟨⟨?_, ?_, ?_⟩, ?_, by rw [hsl]; omega⟩
      · rw [hpd, hrev]; simp
      · rw [hpd, hrev]; intro h; have := Option.some.inj h; omega
      · rw [hpd]; exact hd
      · refine (if_neg hno).trans ?_
        rw [hpd, hs, v]; omega
theorem sg_back {l : List Int} : (sg (l.reverse.map fun x => x - 48)).reverse = l := by
  unfold sg
  rw [List.map_map, ← List.map_reverse, List.reverse_reverse]
  conv => rhs; rw [← List.map_id l]
  refine List.map_congr_left fun x _ => ?_
  show 48 + (x - 48) = x
  omega
/-- A text that says a number is that number's text. -/
theorem Pgd.tx {s : ByteArray} (h : Pgd (byt s)) : Tx (Pz (byt s)) s := by
  by_cases h48 : byt s = [48]
  · have hpd : Pd (byt s) = [48] := by rw [h48]; exact if_neg (by decide)
    have hz : Pz (byt s) = 0 := by
      refine (if_neg (by rw [h48]; decide)).trans ?_
      rw [hpd]; rfl
    refine ⟨fun _ => ?_, fun h => absurd hz h⟩
    rw [← h48, bytesOf_byt]
  · obtain ⟨h1, h2, h3⟩ := h
    have hm := @sg_back (Pd (byt s))
    generalize hmm : (Pd (byt s)).reverse.map (fun x => x - 48) = m at hm
    have hdg : Dg 10 m := by
      intro x hx
      rw [← hmm] at hx
      obtain ⟨y, hy, rfl⟩ := List.mem_map.1 hx
      have := h3 y (List.mem_reverse.1 hy)
      omega
    obtain ⟨y, r, hp⟩ : ∃ y r, Pd (byt s) = y :: r := by
      cases hp : Pd (byt s) with
      | nil => exact absurd hp h1
      | cons y r => exact ⟨y, r, rfl⟩
    have hy48 : y ≠ 48 := fun h => h48 (h2 (by rw [hp, h]; rfl))
    have hc : Cn 10 m := ⟨hdg, (Cn.last hdg).2 (.inr ⟨r.reverse.map (fun x => x - 48), y - 48, by rw [← hmm, hp]; simp, by omega⟩)⟩
    have hv : hn 0 (Pd (byt s)) = V 10 m := by rw [← hm]; exact hn_sg m
    have hm0 : m ≠ [] := by rintro rfl; rw [hp] at hm; cases hm
    have hpos : 0 < V 10 m := by
      cases m with
      | nil => exact absurd rfl hm0
      | cons _ _ => exact hc.pos (by decide)
    by_cases h45 : (byt s)[0]? = some 45
    · have hz : Pz (byt s) = -(V 10 m) := (if_pos h45).trans (by rw [hv])
      have hpd : Pd (byt s) = (byt s).drop 1 := if_pos h45
      refine ⟨fun h => by omega, fun _ => ⟨m, hc, by omega, ?_⟩⟩
      rw [if_pos (by omega), hm, hpd]
      have := byt_cons h45
      rw [List.drop_zero] at this
      rw [List.cons_append, List.nil_append, ← this, bytesOf_byt]
    · have hz : Pz (byt s) = V 10 m := (if_neg h45).trans hv
      have hpd : Pd (byt s) = byt s := if_neg h45
      refine ⟨fun h => by omega, fun _ => ⟨m, hc, by omega, ?_⟩⟩
      rw [if_neg (by omega), hm, hpd, List.nil_append, bytesOf_byt]
/-- Text after Parse. -/
def btail (k : Nat) (s : ByteArray) : Option Bool :=
  Option.bind (Flimb_Parse k s) fun r2 =>
  if ((r2.2.2 != (0 : Int)) = true) then
    if (((((List.length r2.2.1) : Nat) : Int) == (0 : Int)) = true) then
      if ((!r2.1) = true) then
        if ((r2.2.2 == (2 : Int)) = false) then
          if ((r2.2.2 == (3 : Int)) = false) then
            (some (r2.2.2 == (13 : Int)))
          else
          (some true)
        else
        (some true)
      else
      (some false)
    else
    (some false)
  else
  Option.bind (Flimb_Text k r2.1 r2.2.1) fun r3 =>
  if ((r3.2 == (0 : Int)) = true) then
    (some ((Array.toList (ByteArray.data r3.1)) == (Array.toList (ByteArray.data s))))
  else
  (some false)
theorem btail_ev (s : ByteArray) (hs : s.size ≤ 9223372036854775807) : Rn (fun k => btail k s) true := by
  obtain ⟨r, p1, p2⟩ := limbParse_ev s hs
  unfold btail
  refine Rn.bind p1 ?_
  have bad : ∀ c, r = (false, [], c) → (c = 2 ∨ c = 3 ∨ c = 13) → Rn (fun k => if (r.2.2 != 0) = true then (if ((r.2.1.length : Int) == 0) = true then (if (!r.1) = true then (if (r.2.2 == 2) = false then (if (r.2.2 == 3) = false then some (r.2.2 == 13) else some true) else some true) else some false) else some false) else Option.bind (Flimb_Text k r.1 r.2.1) fun r3 => if (r3.2 == 0) = true then some (r3.1.data.toList == s.data.toList) else some false) true := by
    rintro c rfl hc
    rcases hc with rfl | rfl | rfl <;> exact Rn.pure true
  by_cases hbig : 1024 < (byt s).length
  · exact bad 2 (p2.1 hbig) (.inl rfl)
  by_cases hg : Pgd (byt s)
  · obtain ⟨a0, a1, n1, e⟩ := p2.2.2 (by omega) hg
    by_cases h72 : a1.length ≤ 72
    · have e2 : r = (a0, a1, 0) := by rw [e]; exact if_pos h72
      subst e2
      refine Rn.f (show ¬ (((0 : Int) != 0) = true) by decide) ?_
      have hri := n1.ri h72
      obtain ⟨t, t1, t2⟩ := limbText_ev n1.c.1 hri
      have hz : Zv W a0 a1 = Pz (byt s) := n1.z
      rw [hz] at t2
      have := t2.ext hg.tx
      subst this
      refine Rn.bind t1 ?_
      refine Rn.t rfl ?_
      show Rn (fun _ => some (t.data.toList == t.data.toList)) true
      rw [beq_self_eq_true]
      exact Rn.pure _
    · exact bad 13 (by rw [e]; exact if_neg h72) (.inr (.inr rfl))
  · exact bad 3 (p2.2.1 (by omega) hg) (.inr (.inl rfl))
theorem pure_LimbBack (x : Bool × List Int) (s : ByteArray) (wx : Wfd (.pr .bool (.sl (.int .u32))) x) (ws : Wfd .str s) : ∃ k, Fshuntlaw01_LimbBack k x.1 x.2 s = some true := by
  have hs : s.size ≤ 9223372036854775807 := by simpa [Wfd, maxLen] using ws
  obtain ⟨a0, a1⟩ := x
  obtain ⟨da, la⟩ := dg_of wx.2
  simp only at da la
  have hb := btail_ev s hs
  refine Rn.get (Rn.up (f := fun k => Fshuntlaw01_LimbBack k a0 a1 s) ?_)
  show Rn (fun k => bshuntlaw01_LimbBack k a0 a1 s) _
  unfold bshuntlaw01_LimbBack
  refine Rn.bind awake_ev ?_
  (first | (refine Rn.t ?hc ?_; case hc => simp (config := { implicitDefEqProofs := false, maxSteps := 2000000 }) (disch := omega) only [ps, ↓reduceIte, reduceCtorEq, Int.reduceLT, Int.reduceLE, Int.reduceEq, Nat.reduceLT, Nat.reduceLeDiff, Nat.reduceEqDiff, Int.reduceNeg, eitherK]) | (refine Rn.f ?hc ?_; case hc => simp (config := { implicitDefEqProofs := false, maxSteps := 2000000 }) (disch := omega) only [ps, ↓reduceIte, reduceCtorEq, Int.reduceLT, Int.reduceLE, Int.reduceEq, Nat.reduceLT, Nat.reduceLeDiff, Nat.reduceEqDiff, Int.reduceNeg, eitherK]))
  refine Rn.bind (right_ev a0 a1 la da) ?_
  by_cases h : Ri a0 a1
  · have hn1 := h.nm da
    obtain ⟨t, t1, t2⟩ := limbText_ev da h
    have hab := hn1.abs (B := W) (by decide)
    have hlt := V_lt (B := W) (by decide) da
    have hpm := pow_mono (B := W) (by decide) h.1
    obtain ⟨g1, g2, g3⟩ := t2.reads (by omega)
    have htl := byt_len t
    obtain ⟨r, p1, p2⟩ := limbParse_ev t (by omega)
    obtain ⟨b0, b1, m1, e⟩ := p2.2.2 g3 g1
    rw [g2] at m1
    obtain ⟨rfl, rfl⟩ := Nm.ext (by decide) m1 hn1
    have e2 : r = (b0, b1, 0) := by rw [e]; exact if_pos h.1
    subst e2
    (first | (refine Rn.t ?hc ?_; case hc => simp (config := { implicitDefEqProofs := false, maxSteps := 2000000 }) (disch := omega) only [ps, ↓reduceIte, reduceCtorEq, Int.reduceLT, Int.reduceLE, Int.reduceEq, Nat.reduceLT, Nat.reduceLeDiff, Nat.reduceEqDiff, Int.reduceNeg, eitherK, h, decide_true]) | (refine Rn.f ?hc ?_; case hc => simp (config := { implicitDefEqProofs := false, maxSteps := 2000000 }) (disch := omega) only [ps, ↓reduceIte, reduceCtorEq, Int.reduceLT, Int.reduceLE, Int.reduceEq, Nat.reduceLT, Nat.reduceLeDiff, Nat.reduceEqDiff, Int.reduceNeg, eitherK, h, decide_true]))
    refine Rn.bind t1 (Rn.bind p1 ?_)
    (first | (refine Rn.t ?hc ?_; case hc => simp (config := { implicitDefEqProofs := false, maxSteps := 2000000 }) (disch := omega) only [ps, ↓reduceIte, reduceCtorEq, Int.reduceLT, Int.reduceLE, Int.reduceEq, Nat.reduceLT, Nat.reduceLeDiff, Nat.reduceEqDiff, Int.reduceNeg, eitherK]) | (refine Rn.f ?hc ?_; case hc => simp (config := { implicitDefEqProofs := false, maxSteps := 2000000 }) (disch := omega) only [ps, ↓reduceIte, reduceCtorEq, Int.reduceLT, Int.reduceLE, Int.reduceEq, Nat.reduceLT, Nat.reduceLeDiff, Nat.reduceEqDiff, Int.reduceNeg, eitherK]))
    (first | (refine Rn.t ?hc ?_; case hc => simp (config := { implicitDefEqProofs := false, maxSteps := 2000000 }) (disch := omega) only [ps, ↓reduceIte, reduceCtorEq, Int.reduceLT, Int.reduceLE, Int.reduceEq, Nat.reduceLT, Nat.reduceLeDiff, Nat.reduceEqDiff, Int.reduceNeg, eitherK]) | (refine Rn.f ?hc ?_; case hc => simp (config := { implicitDefEqProofs := false, maxSteps := 2000000 }) (disch := omega) only [ps, ↓reduceIte, reduceCtorEq, Int.reduceLT, Int.reduceLE, Int.reduceEq, Nat.reduceLT, Nat.reduceLeDiff, Nat.reduceEqDiff, Int.reduceNeg, eitherK]))
    refine Rn.bind (same_ev b0 b0 b1 b1 (by have := h.1; omega)) ?_
    (first | (refine Rn.t ?hc ?_; case hc => simp (config := { implicitDefEqProofs := false, maxSteps := 2000000 }) (disch := omega) only [ps, ↓reduceIte, reduceCtorEq, Int.reduceLT, Int.reduceLE, Int.reduceEq, Nat.reduceLT, Nat.reduceLeDiff, Nat.reduceEqDiff, Int.reduceNeg, eitherK, decide_true]) | (refine Rn.f ?hc ?_; case hc => simp (config := { implicitDefEqProofs := false, maxSteps := 2000000 }) (disch := omega) only [ps, ↓reduceIte, reduceCtorEq, Int.reduceLT, Int.reduceLE, Int.reduceEq, Nat.reduceLT, Nat.reduceLeDiff, Nat.reduceEqDiff, Int.reduceNeg, eitherK, decide_true]))
    exact hb
  · (first | (refine Rn.t ?hc ?_; case hc => simp (config := { implicitDefEqProofs := false, maxSteps := 2000000 }) (disch := omega) only [ps, ↓reduceIte, reduceCtorEq, Int.reduceLT, Int.reduceLE, Int.reduceEq, Nat.reduceLT, Nat.reduceLeDiff, Nat.reduceEqDiff, Int.reduceNeg, eitherK, h, decide_false]) | (refine Rn.f ?hc ?_; case hc => simp (config := { implicitDefEqProofs := false, maxSteps := 2000000 }) (disch := omega) only [ps, ↓reduceIte, reduceCtorEq, Int.reduceLT, Int.reduceLE, Int.reduceEq, Nat.reduceLT, Nat.reduceLeDiff, Nat.reduceEqDiff, Int.reduceNeg, eitherK, h, decide_false]))
    exact hb
end Go.Proofs.Ytghdpmejgonjmaa.Am
