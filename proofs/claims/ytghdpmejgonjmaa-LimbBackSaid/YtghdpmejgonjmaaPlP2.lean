/- Plain reckoning: decimal texts read by the program. -/
import Derived.Test.YtghdpmejgonjmaaPlP1
import Derived.Test.YtghdpmejgonjmaaPlD4
set_option linter.unusedVariables false
set_option linter.unusedSimpArgs false
set_option maxRecDepth 10000
namespace Go.Proofs.Ytghdpmejgonjmaa.Am
open Go

instance (l : List Int) : Decidable (Dc l) := by unfold Dc; infer_instance
theorem byt_cons {s : ByteArray} {i : Nat} {x : Int} (hx : (byt s)[i]? = some x) : (byt s).drop i = x :: (byt s).drop (i + 1) := by
  obtain ⟨hh, rfl⟩ := List.getElem?_eq_some_iff.1 hx
  exact List.drop_eq_getElem_cons hh
theorem Digits_ev (s : ByteArray) (hs : s.size ≤ 1024) (h0 : 0 < s.size) (hd : Dc (byt s)) :
    ∃ n1 l1, Rn (fun k => Fbig_Digits k s) (Sum.inr (n1, l1)) ∧ Nm W n1 l1 (hn 0 (byt s)) ∧ l1.length ≤ 4 * s.size := by
  obtain ⟨l, a1, a2, a3⟩ := NewInt_ev 10 (by decide)
  have n10 : Nm W false [10] 10 := ⟨⟨Dg.cons (by decide) Dg.nil, by decide⟩, fun h => (by cases h), by decide⟩
  obtain ⟨_, rfl⟩ := Nm.ext (by decide) a2 n10
  rw [show decide ((10 : Int) < 0) = false from rfl] at a1
  obtain ⟨x, hx⟩ := get_of (show 0 < (byt s).length by rw [byt_len]; omega)
  have hxb := hd x (List.mem_of_getElem? hx)
  obtain ⟨b, hb, hbx⟩ := byt_get hx
  obtain ⟨l2, q1, q2, q3⟩ := NewInt_ev (x - 48) (by omega)
  have hdf : decide (x - 48 < 0) = false := by rw [decide_eq_false_iff_not]; omega
  rw [hdf] at q1 q2
  have nz : Nm W false [] 0 := ⟨Cn.nil, fun h => (by cases h), by simp [V]⟩
  obtain ⟨s3, l3, r1, r2, r3⟩ := Add2_ev false _ [] l2 nz q2 (by simp) (by omega)
  have hl0 : ([] : List Int).length = 0 := rfl
  rw [hl0] at r3
  obtain ⟨n1, l4, t1, t2, t3⟩ := digits_loop 0 s hs hd (s.size - 1) 1 s3 l3 (0 + (x - 48)) (by omega) r2 (by omega) (by omega)
  have hm := Mulu_ev false false [10] (by simp)
  refine ⟨n1, l4, ?_, ?_, t3⟩
  · have e1 : IntKind.i64.wrap (IntKind.u8.wrap (((UInt8.toNat b : Nat) : Int) - 48)) = x - 48 := by
      rw [hbx, wrap_u8_id (by omega), wrap_i64 (by omega)]
    refine Rn.up (f := fun k => Fbig_Digits k s) ?_
    show Rn (fun k => bbig_Digits k s) _
    unfold bbig_Digits
    refine Rn.bind a1 (Rn.bind (x := Sum.inr (n1, l4, false, [10])) ?_ (Rn.pure _))
    refine Rl.diag (f := fun k n => Lbig_Digits_0 k n _) ?_
    obtain ⟨K1, p1⟩ := hm
    obtain ⟨K2, q1⟩ := q1
    obtain ⟨K3, r1⟩ := r1
    obtain ⟨K4, t1⟩ := t1
    refine ⟨max (max K1 K2) (max K3 K4) + 1, fun k n hk hn => ?_⟩
    obtain ⟨n, rfl⟩ : ∃ m, n = m + 1 := ⟨n - 1, by omega⟩
    have p1' := p1 k (by omega)
    have q1' := q1 k (by omega)
    have r1' := r1 k (by omega)
    have t1' := t1 k n (by omega) (by omega)
    have h1 : ((1 : Nat) : Int) = 1 := rfl
    simp only [h1] at t1'
    rw [← t1']
    show Lbig_Digits_0s k (Lbig_Digits_0 k n) _ = _
    unfold Lbig_Digits_0s
    simp only [] at p1' q1' r1'
    have hlt : (0 : Int) < (s.size : Int) := by omega
    simp (config := { implicitDefEqProofs := false, maxSteps := 2000000 }) (disch := omega) only [ps, ↓reduceIte, reduceCtorEq, Int.reduceLT, Int.reduceLE, Int.reduceEq, Nat.reduceLT, Nat.reduceLeDiff, Nat.reduceEqDiff, Int.reduceNeg, eitherK, p1', hb, hbx, q1', r1', e1, Int.zero_add]
  · have := byt_cons hx
    rw [List.drop_zero] at this
    rw [this, hn]
    simpa using t2
theorem Neg_ev {a0 : Bool} {a1 : List Int} {z : Int} (hn : Nm W a0 a1 z) (hl : a1.length ≤ 1000000000) : ∃ s l, Rn (fun k => Fbig_Int_Neg_xoq k a0 a1) (s, l) ∧ Nm W s l (-z) ∧ l.length ≤ a1.length := by
  have hs := set2_ev (!a0) a0 a1 a1 (by omega)
  refine ⟨sgn (!a0) a1, tl a1, ?_, ?_, tl_len a1⟩
  · refine Rn.up (f := fun k => Fbig_Int_Neg_xoq k a0 a1) ?_
    show Rn (fun k => bbig_Int_Neg_xoq k a0 a1) _
    unfold bbig_Int_Neg_xoq
    exact Rn.bind hs (Rn.pure _)
  · refine (sgn_nm (neg := !a0) hn.c.1 rfl).cast ?_
    rw [← hn.z]
    cases a0 <;> simp
theorem parse_loop (k : Nat) (s d : ByteArray) (hd : d.size ≤ 1024) : ∀ (e i n : Nat), i + e = d.size → e < n →
    Llimb_Parse_0 k n s d d.size i false 0 [] = some (if Dc ((byt d).drop i) then Sum.inr (s, d, false, 0, []) else Sum.inl (3, false, [])) := by
  intro e
  induction e with
  | zero =>
    intro i n hi hn
    obtain ⟨n, rfl⟩ : ∃ m, n = m + 1 := ⟨n - 1, by omega⟩
    rw [List.drop_of_length_le (by rw [byt_len]; omega), if_pos (show Dc [] from fun x h => by cases h)]
    show Llimb_Parse_0s k (Llimb_Parse_0 k n) _ _ _ _ _ _ _ = _
    unfold Llimb_Parse_0s
    simp (config := { implicitDefEqProofs := false, maxSteps := 2000000 }) (disch := omega) only [ps, ↓reduceIte, reduceCtorEq, Int.reduceLT, Int.reduceLE, Int.reduceEq, Nat.reduceLT, Nat.reduceLeDiff, Nat.reduceEqDiff, Int.reduceNeg, eitherK]
  | succ e ih =>
    intro i n hi hn
    obtain ⟨n, rfl⟩ : ∃ m, n = m + 1 := ⟨n - 1, by omega⟩
    obtain ⟨x, hx⟩ := get_of (show i < (byt d).length by rw [byt_len]; omega)
    obtain ⟨b, hb, hbx⟩ := byt_get hx
    have h1 : ((i : Int) + 1) = ((i + 1 : Nat) : Int) := rfl
    have key := ih (i + 1) n (by omega) (by omega)
    rw [byt_cons hx]
    have hlt : (i : Int) < (d.size : Int) := by omega
    show Llimb_Parse_0s k (Llimb_Parse_0 k n) _ _ _ _ _ _ _ = _
    unfold Llimb_Parse_0s
    by_cases hlo : 48 ≤ x
    · by_cases hhi : x ≤ 57
      · have hiff : Dc (x :: (byt d).drop (i + 1)) ↔ Dc ((byt d).drop (i + 1)) :=
          ⟨fun h y hy => h y (List.mem_cons_of_mem _ hy), fun h y hy => by
            rcases List.mem_cons.1 hy with rfl | hy
            · exact ⟨hlo, hhi⟩
            · exact h y hy⟩
        have heq : (if Dc (x :: (byt d).drop (i + 1)) then (Sum.inr (s, d, false, 0, []) : (Int × Bool × List Int) ⊕ (ByteArray × ByteArray × Bool × Nat × List Int)) else Sum.inl (3, false, [])) = if Dc ((byt d).drop (i + 1)) then Sum.inr (s, d, false, 0, []) else Sum.inl (3, false, []) := by
          by_cases h : Dc ((byt d).drop (i + 1))
          · rw [if_pos h, if_pos (hiff.2 h)]
          · rw [if_neg h, if_neg (mt hiff.1 h)]
        rw [heq, ← key]
        simp (config := { implicitDefEqProofs := false, maxSteps := 2000000 }) (disch := omega) only [ps, ↓reduceIte, reduceCtorEq, Int.reduceLT, Int.reduceLE, Int.reduceEq, Nat.reduceLT, Nat.reduceLeDiff, Nat.reduceEqDiff, Int.reduceNeg, eitherK, hb, hbx, h1]
      · rw [if_neg (show ¬ Dc (x :: (byt d).drop (i + 1)) from fun h => hhi (h x (List.mem_cons_self ..)).2)]
        simp (config := { implicitDefEqProofs := false, maxSteps := 2000000 }) (disch := omega) only [ps, ↓reduceIte, reduceCtorEq, Int.reduceLT, Int.reduceLE, Int.reduceEq, Nat.reduceLT, Nat.reduceLeDiff, Nat.reduceEqDiff, Int.reduceNeg, eitherK, hb, hbx, h1]
    · rw [if_neg (show ¬ Dc (x :: (byt d).drop (i + 1)) from fun h => hlo (h x (List.mem_cons_self ..)).1)]
      simp (config := { implicitDefEqProofs := false, maxSteps := 2000000 }) (disch := omega) only [ps, ↓reduceIte, reduceCtorEq, Int.reduceLT, Int.reduceLE, Int.reduceEq, Nat.reduceLT, Nat.reduceLeDiff, Nat.reduceEqDiff, Int.reduceNeg, eitherK, hb, hbx, h1]
theorem byt_inj {s t : ByteArray} : byt s = byt t ↔ s.data.toList = t.data.toList := by
  refine ⟨fun h => ?_, fun h => by unfold byt; rw [h]⟩
  unfold byt at h
  refine (List.map_inj_right fun a b hab => ?_).1 h
  exact UInt8.toNat_inj.1 (by omega)
theorem byt_beq (s t : ByteArray) : (s.data.toList == t.data.toList) = decide (byt s = byt t) := by
  by_cases h : byt s = byt t
  · rw [decide_eq_true h, byt_inj.1 h]; exact beq_self_eq_true _
  · rw [decide_eq_false h]; exact beq_eq_false_iff_ne.2 (mt byt_inj.2 h)
theorem byt_extract (s : ByteArray) : byt (s.extract 1 s.size) = (byt s).drop 1 := by
  unfold byt
  rw [← List.map_drop]
  congr 1
  rw [ByteArray.data_extract]
  simp
  refine List.take_of_length_le ?_
  rw [List.length_tail, Array.length_toList]
  exact Nat.le_refl _
/-- The end of Parse: the signs are looked at, and read. -/
def ptail (k : Nat) (s d : ByteArray) : Option (Bool × List Int × Int) :=
    Option.bind (Llimb_Parse_0 k k s d (((ByteArray.size d) : Nat) : Int) (0 : Int) false 0 []) fun r1 =>
    eitherK r1
      (fun r1 =>
      (some (r1.2.1, [], r1.1)))
      (fun r1 =>
      Option.bind (Fbig_Digits k r1.2.1) fun r2 =>
      eitherK r2
        (fun r2 =>
        if ((!((Array.toList (ByteArray.data r1.2.1)) == (Array.toList (ByteArray.data r1.1)))) = true) then
          Option.bind (Fbig_Int_Neg_mad k r2) fun r3 =>
          Option.bind (Flimb_answer_awf k r3.1 r3.2) fun r4 =>
          if ((0 + r4.2.1) ≤ (List.length r4.2.2.2.2.2)) then
            (some (r4.1, (List.take r4.2.1 r4.2.2.2.2.2), r4.2.2.1))
          else
          none
        else
        Option.bind (Flimb_answer_oma k r2) fun r3 =>
        if ((0 + r3.2.1) ≤ (List.length r3.2.2.2.2)) then
          (some (r3.1, (List.take r3.2.1 r3.2.2.2.2), r3.2.2.1))
        else
        none)
        (fun r2 =>
        if ((!((Array.toList (ByteArray.data r1.2.1)) == (Array.toList (ByteArray.data r1.1)))) = true) then
          Option.bind (Fbig_Int_Neg_xoq k r2.1 r2.2) fun r3 =>
          Option.bind (Flimb_answer_awf k r3.1 r3.2) fun r4 =>
          if ((0 + r4.2.1) ≤ (List.length r4.2.2.2.2.2)) then
            (some (r4.1, (List.take r4.2.1 r4.2.2.2.2.2), r4.2.2.1))
          else
          none
        else
        Option.bind (Flimb_answer_awf k r2.1 r2.2) fun r3 =>
        if ((0 + r3.2.1) ≤ (List.length r3.2.2.2.2.2)) then
          (some (r3.1, (List.take r3.2.1 r3.2.2.2.2.2), r3.2.2.1))
        else
        none))

theorem ptail_no (s d : ByteArray) (hd : d.size ≤ 1024) (h : ¬ Dc (byt d)) : Rn (fun k => ptail k s d) (false, [], 3) := by
  unfold ptail
  have hl : Rn (fun k => Llimb_Parse_0 k k s d d.size (0 : Int) false 0 []) (Sum.inl (3, false, [])) := by
    refine Rn.eq (d.size + 1) fun k hk => ?_
    have := parse_loop k s d hd d.size 0 k (by omega) (by omega)
    rw [List.drop_zero, if_neg h] at this
    exact this
  exact Rn.bind hl (Rn.pure _)
theorem ptail_ev (s d : ByteArray) (neg : Bool) (h0 : 0 < d.size) (hd : d.size ≤ 1024) (h : Dc (byt d)) (hs : (d.data.toList == s.data.toList) = !neg) :
    ∃ a0 a1, Rn (fun k => ptail k s d) (ans a0 a1) ∧ Nm W a0 a1 (if neg then -(hn 0 (byt d)) else hn 0 (byt d)) := by
  obtain ⟨n1, l1, p1, p2, p3⟩ := Digits_ev d hd h0 h
  have hl : Rn (fun k => Llimb_Parse_0 k k s d d.size (0 : Int) false 0 []) (Sum.inr (s, d, false, 0, [])) := by
    refine Rn.eq (d.size + 1) fun k hk => ?_
    have := parse_loop k s d hd d.size 0 k (by omega) (by omega)
    rw [List.drop_zero, if_pos h] at this
    exact this
  obtain ⟨s2, l2, q1, q2, q3⟩ := Neg_ev p2 (by omega)
  unfold ptail
  cases neg
  · refine ⟨n1, l1, ?_, p2⟩
    refine Rn.bind hl (Rn.bind p1 ?_)
    show Rn (fun k => if (!(d.data.toList == s.data.toList)) = true then _ else _) _
    rw [hs]
    refine Rn.f (by decide) (Rn.bind (answer1_ev p2 (show l1.length ≤ 1000000000 by omega)) ?_)
    refine Rn.t (show 0 + (ans n1 l1).2.1.length ≤ (ans n1 l1).2.1.length by omega) ?_
    rw [List.take_length]
    exact Rn.pure _
  · refine ⟨s2, l2, ?_, q2⟩
    refine Rn.bind hl (Rn.bind p1 ?_)
    show Rn (fun k => if (!(d.data.toList == s.data.toList)) = true then _ else _) _
    rw [hs]
    refine Rn.t (by decide) (Rn.bind q1 (Rn.bind (answer1_ev q2 (show l2.length ≤ 1000000000 by omega)) ?_))
    refine Rn.t (show 0 + (ans s2 l2).2.1.length ≤ (ans s2 l2).2.1.length by omega) ?_
    rw [List.take_length]
    exact Rn.pure _
/-- The number a decimal text says, if it is one. -/
def Pd (l : List Int) : List Int := if l[0]? = some 45 then l.drop 1 else l
def Pgd (l : List Int) : Prop := Pd l ≠ [] ∧ ((Pd l)[0]? = some 48 → l = [48]) ∧ Dc (Pd l)
def Pz (l : List Int) : Int := if l[0]? = some 45 then -(hn 0 (Pd l)) else hn 0 (Pd l)
def Pres (l : List Int) (r : Bool × List Int × Int) : Prop :=
  (1024 < l.length → r = (false, [], 2)) ∧ (l.length ≤ 1024 → ¬ Pgd l → r = (false, [], 3)) ∧
  (l.length ≤ 1024 → Pgd l → ∃ s w, Nm W s w (Pz l) ∧ r = ans s w)
theorem Pres.ext {l : List Int} {r t : Bool × List Int × Int} (h1 : Pres l r) (h2 : Pres l t) : r = t := by
  by_cases h : 1024 < l.length
  · rw [h1.1 h, h2.1 h]
  · by_cases hg : Pgd l
    · obtain ⟨s, w, a1, a2⟩ := h1.2.2 (by omega) hg
      obtain ⟨s', w', b1, b2⟩ := h2.2.2 (by omega) hg
      obtain ⟨rfl, rfl⟩ := Nm.ext (by decide) a1 b1
      rw [a2, b2]
    · rw [h1.2.1 (by omega) hg, h2.2.1 (by omega) hg]
theorem limbParse_ev (s : ByteArray) (hs : s.size ≤ 9223372036854775807) : ∃ r, Rn (fun k => Flimb_Parse k s) r ∧ Pres (byt s) r := by
  have hlen := byt_len s
  suffices h : ∃ r, Rn (fun k => blimb_Parse k s) r ∧ Pres (byt s) r by
    obtain ⟨r, h1, h2⟩ := h
    exact ⟨r, Rn.up (f := fun k => Flimb_Parse k s) h1, h2⟩
  unfold blimb_Parse
  by_cases hbig : 1024 < s.size
  · refine ⟨(false, [], 2), ?_, fun _ => rfl, fun h => by omega, fun h => by omega⟩
    (first | (refine Rn.t ?hc ?_; case hc => simp (config := { implicitDefEqProofs := false, maxSteps := 2000000 }) (disch := omega) only [ps, ↓reduceIte, reduceCtorEq, Int.reduceLT, Int.reduceLE, Int.reduceEq, Nat.reduceLT, Nat.reduceLeDiff, Nat.reduceEqDiff, Int.reduceNeg, eitherK]) | (refine Rn.f ?hc ?_; case hc => simp (config := { implicitDefEqProofs := false, maxSteps := 2000000 }) (disch := omega) only [ps, ↓reduceIte, reduceCtorEq, Int.reduceLT, Int.reduceLE, Int.reduceEq, Nat.reduceLT, Nat.reduceLeDiff, Nat.reduceEqDiff, Int.reduceNeg, eitherK]))
    exact Rn.pure _
  by_cases h0 : s.size = 0
  · have hb : byt s = [] := List.length_eq_zero_iff.1 (by omega)
    have hbe : (s.data.toList == (ByteArray.mk (List.toArray [])).data.toList) = true := by rw [byt_beq, hb]; rfl
    refine ⟨(false, [], 3), ?_, fun h => by omega, fun _ _ => rfl, fun _ h => ?_⟩
    · (first | (refine Rn.t ?hc ?_; case hc => simp (config := { implicitDefEqProofs := false, maxSteps := 2000000 }) (disch := omega) only [ps, ↓reduceIte, reduceCtorEq, Int.reduceLT, Int.reduceLE, Int.reduceEq, Nat.reduceLT, Nat.reduceLeDiff, Nat.reduceEqDiff, Int.reduceNeg, eitherK]) | (refine Rn.f ?hc ?_; case hc => simp (config := { implicitDefEqProofs := false, maxSteps := 2000000 }) (disch := omega) only [ps, ↓reduceIte, reduceCtorEq, Int.reduceLT, Int.reduceLE, Int.reduceEq, Nat.reduceLT, Nat.reduceLeDiff, Nat.reduceEqDiff, Int.reduceNeg, eitherK]))
      (first | (refine Rn.t ?hc ?_; case hc => simp (config := { implicitDefEqProofs := false, maxSteps := 2000000 }) (disch := omega) only [ps, ↓reduceIte, reduceCtorEq, Int.reduceLT, Int.reduceLE, Int.reduceEq, Nat.reduceLT, Nat.reduceLeDiff, Nat.reduceEqDiff, Int.reduceNeg, eitherK]) | (refine Rn.f ?hc ?_; case hc => simp (config := { implicitDefEqProofs := false, maxSteps := 2000000 }) (disch := omega) only [ps, ↓reduceIte, reduceCtorEq, Int.reduceLT, Int.reduceLE, Int.reduceEq, Nat.reduceLT, Nat.reduceLeDiff, Nat.reduceEqDiff, Int.reduceNeg, eitherK]))
      (first | (refine Rn.t ?hc ?_; case hc => simp (config := { implicitDefEqProofs := false, maxSteps := 2000000 }) (disch := omega) only [ps, ↓reduceIte, reduceCtorEq, Int.reduceLT, Int.reduceLE, Int.reduceEq, Nat.reduceLT, Nat.reduceLeDiff, Nat.reduceEqDiff, Int.reduceNeg, eitherK, hbe]) | (refine Rn.f ?hc ?_; case hc => simp (config := { implicitDefEqProofs := false, maxSteps := 2000000 }) (disch := omega) only [ps, ↓reduceIte, reduceCtorEq, Int.reduceLT, Int.reduceLE, Int.reduceEq, Nat.reduceLT, Nat.reduceLeDiff, Nat.reduceEqDiff, Int.reduceNeg, eitherK, hbe]))
      exact Rn.pure _
    · exact absurd (by rw [hb]; rfl) h.1
  obtain ⟨x, hx⟩ := get_of (show 0 < (byt s).length by omega)
  obtain ⟨b, hb, hbx⟩ := byt_get hx
  by_cases h45 : x = 45
  · subst h45
    have hpd : Pd (byt s) = (byt s).drop 1 := if_pos hx
    have hpz : Pz (byt s) = -(hn 0 (Pd (byt s))) := if_pos hx
    have hbd := byt_extract s
    have hszd : (s.extract 1 s.size).size = s.size - 1 := by rw [← byt_len, hbd, List.length_drop]; omega
    have hdne : ((s.extract 1 s.size).data.toList == s.data.toList) = !true := by
      rw [byt_beq]
      exact decide_eq_false fun h => by
        have := congrArg List.length h
        rw [byt_len, byt_len] at this
        omega
    by_cases hd0 : s.size = 1
    · have hbe : ((s.extract 1 s.size).data.toList == (ByteArray.mk (List.toArray [])).data.toList) = true := by
        rw [byt_beq, hbd]
        exact decide_eq_true (List.drop_of_length_le (by omega))
      refine ⟨(false, [], 3), ?_, fun h => by omega, fun _ _ => rfl, fun _ h => ?_⟩
      · (first | (refine Rn.t ?hc ?_; case hc => simp (config := { implicitDefEqProofs := false, maxSteps := 2000000 }) (disch := omega) only [ps, ↓reduceIte, reduceCtorEq, Int.reduceLT, Int.reduceLE, Int.reduceEq, Nat.reduceLT, Nat.reduceLeDiff, Nat.reduceEqDiff, Int.reduceNeg, eitherK]) | (refine Rn.f ?hc ?_; case hc => simp (config := { implicitDefEqProofs := false, maxSteps := 2000000 }) (disch := omega) only [ps, ↓reduceIte, reduceCtorEq, Int.reduceLT, Int.reduceLE, Int.reduceEq, Nat.reduceLT, Nat.reduceLeDiff, Nat.reduceEqDiff, Int.reduceNeg, eitherK]))
        (first | (refine Rn.t ?hc ?_; case hc => simp (config := { implicitDefEqProofs := false, maxSteps := 2000000 }) (disch := omega) only [ps, ↓reduceIte, reduceCtorEq, Int.reduceLT, Int.reduceLE, Int.reduceEq, Nat.reduceLT, Nat.reduceLeDiff, Nat.reduceEqDiff, Int.reduceNeg, eitherK]) | (refine Rn.f ?hc ?_; case hc => simp (config := { implicitDefEqProofs := false, maxSteps := 2000000 }) (disch := omega) only [ps, ↓reduceIte, reduceCtorEq, Int.reduceLT, Int.reduceLE, Int.reduceEq, Nat.reduceLT, Nat.reduceLeDiff, Nat.reduceEqDiff, Int.reduceNeg, eitherK]))
        refine Rn.at hb ?_
        (first | (refine Rn.t ?hc ?_; case hc => simp (config := { implicitDefEqProofs := false, maxSteps := 2000000 }) (disch := omega) only [ps, ↓reduceIte, reduceCtorEq, Int.reduceLT, Int.reduceLE, Int.reduceEq, Nat.reduceLT, Nat.reduceLeDiff, Nat.reduceEqDiff, Int.reduceNeg, eitherK, hbx]) | (refine Rn.f ?hc ?_; case hc => simp (config := { implicitDefEqProofs := false, maxSteps := 2000000 }) (disch := omega) only [ps, ↓reduceIte, reduceCtorEq, Int.reduceLT, Int.reduceLE, Int.reduceEq, Nat.reduceLT, Nat.reduceLeDiff, Nat.reduceEqDiff, Int.reduceNeg, eitherK, hbx]))
        (first | (refine Rn.t ?hc ?_; case hc => simp (config := { implicitDefEqProofs := false, maxSteps := 2000000 }) (disch := omega) only [ps, ↓reduceIte, reduceCtorEq, Int.reduceLT, Int.reduceLE, Int.reduceEq, Nat.reduceLT, Nat.reduceLeDiff, Nat.reduceEqDiff, Int.reduceNeg, eitherK]) | (refine Rn.f ?hc ?_; case hc => simp (config := { implicitDefEqProofs := false, maxSteps := 2000000 }) (disch := omega) only [ps, ↓reduceIte, reduceCtorEq, Int.reduceLT, Int.reduceLE, Int.reduceEq, Nat.reduceLT, Nat.reduceLeDiff, Nat.reduceEqDiff, Int.reduceNeg, eitherK]))
        (first | (refine Rn.t ?hc ?_; case hc => simp (config := { implicitDefEqProofs := false, maxSteps := 2000000 }) (disch := omega) only [ps, ↓reduceIte, reduceCtorEq, Int.reduceLT, Int.reduceLE, Int.reduceEq, Nat.reduceLT, Nat.reduceLeDiff, Nat.reduceEqDiff, Int.reduceNeg, eitherK, Int.toNat_natCast, hbe]) | (refine Rn.f ?hc ?_; case hc => simp (config := { implicitDefEqProofs := false, maxSteps := 2000000 }) (disch := omega) only [ps, ↓reduceIte, reduceCtorEq, Int.reduceLT, Int.reduceLE, Int.reduceEq, Nat.reduceLT, Nat.reduceLeDiff, Nat.reduceEqDiff, Int.reduceNeg, eitherK, Int.toNat_natCast, hbe]))
        exact Rn.pure _
      · exact absurd (by rw [hpd]; exact List.drop_of_length_le (by omega)) h.1
    · have hbe : ((s.extract 1 s.size).data.toList == (ByteArray.mk (List.toArray [])).data.toList) = false := by
        rw [byt_beq, hbd]
        exact decide_eq_false fun h => by
          have := congrArg List.length h
          rw [List.length_drop] at this
          have e : (byt (ByteArray.mk (List.toArray []))).length = 0 := rfl
          omega
      obtain ⟨y, hy⟩ := get_of (show 0 < (byt (s.extract 1 s.size)).length by rw [byt_len]; omega)
      obtain ⟨c, hc, hcy⟩ := byt_get hy
      rw [hbd] at hy
      have hne : byt s ≠ [48] := fun h => by rw [h] at hx; cases hx
      have hb48 : (!(s.data.toList == (ByteArray.mk (List.toArray (48 :: []))).data.toList)) = true := by
        rw [byt_beq]
        rw [decide_eq_false (show ¬ byt s = byt (ByteArray.mk (List.toArray (48 :: []))) from hne)]
        rfl
      by_cases h48 : y = 48
      · subst h48
        refine ⟨(false, [], 3), ?_, fun h => by omega, fun _ _ => rfl, fun _ h => ?_⟩
        · (first | (refine Rn.t ?hc ?_; case hc => simp (config := { implicitDefEqProofs := false, maxSteps := 2000000 }) (disch := omega) only [ps, ↓reduceIte, reduceCtorEq, Int.reduceLT, Int.reduceLE, Int.reduceEq, Nat.reduceLT, Nat.reduceLeDiff, Nat.reduceEqDiff, Int.reduceNeg, eitherK]) | (refine Rn.f ?hc ?_; case hc => simp (config := { implicitDefEqProofs := false, maxSteps := 2000000 }) (disch := omega) only [ps, ↓reduceIte, reduceCtorEq, Int.reduceLT, Int.reduceLE, Int.reduceEq, Nat.reduceLT, Nat.reduceLeDiff, Nat.reduceEqDiff, Int.reduceNeg, eitherK]))
          (first | (refine Rn.t ?hc ?_; case hc => simp (config := { implicitDefEqProofs := false, maxSteps := 2000000 }) (disch := omega) only [ps, ↓reduceIte, reduceCtorEq, Int.reduceLT, Int.reduceLE, Int.reduceEq, Nat.reduceLT, Nat.reduceLeDiff, Nat.reduceEqDiff, Int.reduceNeg, eitherK]) | (refine Rn.f ?hc ?_; case hc => simp (config := { implicitDefEqProofs := false, maxSteps := 2000000 }) (disch := omega) only [ps, ↓reduceIte, reduceCtorEq, Int.reduceLT, Int.reduceLE, Int.reduceEq, Nat.reduceLT, Nat.reduceLeDiff, Nat.reduceEqDiff, Int.reduceNeg, eitherK]))
          refine Rn.at hb ?_
          (first | (refine Rn.t ?hc ?_; case hc => simp (config := { implicitDefEqProofs := false, maxSteps := 2000000 }) (disch := omega) only [ps, ↓reduceIte, reduceCtorEq, Int.reduceLT, Int.reduceLE, Int.reduceEq, Nat.reduceLT, Nat.reduceLeDiff, Nat.reduceEqDiff, Int.reduceNeg, eitherK, hbx]) | (refine Rn.f ?hc ?_; case hc => simp (config := { implicitDefEqProofs := false, maxSteps := 2000000 }) (disch := omega) only [ps, ↓reduceIte, reduceCtorEq, Int.reduceLT, Int.reduceLE, Int.reduceEq, Nat.reduceLT, Nat.reduceLeDiff, Nat.reduceEqDiff, Int.reduceNeg, eitherK, hbx]))
          (first | (refine Rn.t ?hc ?_; case hc => simp (config := { implicitDefEqProofs := false, maxSteps := 2000000 }) (disch := omega) only [ps, ↓reduceIte, reduceCtorEq, Int.reduceLT, Int.reduceLE, Int.reduceEq, Nat.reduceLT, Nat.reduceLeDiff, Nat.reduceEqDiff, Int.reduceNeg, eitherK]) | (refine Rn.f ?hc ?_; case hc => simp (config := { implicitDefEqProofs := false, maxSteps := 2000000 }) (disch := omega) only [ps, ↓reduceIte, reduceCtorEq, Int.reduceLT, Int.reduceLE, Int.reduceEq, Nat.reduceLT, Nat.reduceLeDiff, Nat.reduceEqDiff, Int.reduceNeg, eitherK]))
          (first | (refine Rn.t ?hc ?_; case hc => simp (config := { implicitDefEqProofs := false, maxSteps := 2000000 }) (disch := omega) only [ps, ↓reduceIte, reduceCtorEq, Int.reduceLT, Int.reduceLE, Int.reduceEq, Nat.reduceLT, Nat.reduceLeDiff, Nat.reduceEqDiff, Int.reduceNeg, eitherK, Int.toNat_natCast, hbe]) | (refine Rn.f ?hc ?_; case hc => simp (config := { implicitDefEqProofs := false, maxSteps := 2000000 }) (disch := omega) only [ps, ↓reduceIte, reduceCtorEq, Int.reduceLT, Int.reduceLE, Int.reduceEq, Nat.reduceLT, Nat.reduceLeDiff, Nat.reduceEqDiff, Int.reduceNeg, eitherK, Int.toNat_natCast, hbe]))
          refine Rn.at hc ?_
          (first | (refine Rn.t ?hc ?_; case hc => simp (config := { implicitDefEqProofs := false, maxSteps := 2000000 }) (disch := omega) only [ps, ↓reduceIte, reduceCtorEq, Int.reduceLT, Int.reduceLE, Int.reduceEq, Nat.reduceLT, Nat.reduceLeDiff, Nat.reduceEqDiff, Int.reduceNeg, eitherK, hcy]) | (refine Rn.f ?hc ?_; case hc => simp (config := { implicitDefEqProofs := false, maxSteps := 2000000 }) (disch := omega) only [ps, ↓reduceIte, reduceCtorEq, Int.reduceLT, Int.reduceLE, Int.reduceEq, Nat.reduceLT, Nat.reduceLeDiff, Nat.reduceEqDiff, Int.reduceNeg, eitherK, hcy]))
          (first | (refine Rn.t ?hc ?_; case hc => simp (config := { implicitDefEqProofs := false, maxSteps := 2000000 }) (disch := omega) only [ps, ↓reduceIte, reduceCtorEq, Int.reduceLT, Int.reduceLE, Int.reduceEq, Nat.reduceLT, Nat.reduceLeDiff, Nat.reduceEqDiff, Int.reduceNeg, eitherK, hb48]) | (refine Rn.f ?hc ?_; case hc => simp (config := { implicitDefEqProofs := false, maxSteps := 2000000 }) (disch := omega) only [ps, ↓reduceIte, reduceCtorEq, Int.reduceLT, Int.reduceLE, Int.reduceEq, Nat.reduceLT, Nat.reduceLeDiff, Nat.reduceEqDiff, Int.reduceNeg, eitherK, hb48]))
          exact Rn.pure _
        · exact absurd (h.2.1 (by rw [hpd]; exact hy)) hne
      · by_cases hdc : Dc (byt (s.extract 1 s.size))
        · obtain ⟨a0, a1, q1, q2⟩ := ptail_ev s (s.extract 1 s.size) true (by omega) (by omega) hdc hdne
          refine ⟨ans a0 a1, ?_, fun h => by omega, fun _ h => ?_, fun _ h => ⟨a0, a1, ?_, rfl⟩⟩
          · (first | (refine Rn.t ?hc ?_; case hc => simp (config := { implicitDefEqProofs := false, maxSteps := 2000000 }) (disch := omega) only [ps, ↓reduceIte, reduceCtorEq, Int.reduceLT, Int.reduceLE, Int.reduceEq, Nat.reduceLT, Nat.reduceLeDiff, Nat.reduceEqDiff, Int.reduceNeg, eitherK]) | (refine Rn.f ?hc ?_; case hc => simp (config := { implicitDefEqProofs := false, maxSteps := 2000000 }) (disch := omega) only [ps, ↓reduceIte, reduceCtorEq, Int.reduceLT, Int.reduceLE, Int.reduceEq, Nat.reduceLT, Nat.reduceLeDiff, Nat.reduceEqDiff, Int.reduceNeg, eitherK]))
            (first | (refine Rn.t ?hc ?_; case hc => simp (config := { implicitDefEqProofs := false, maxSteps := 2000000 }) (disch := omega) only [ps, ↓reduceIte, reduceCtorEq, Int.reduceLT, Int.reduceLE, Int.reduceEq, Nat.reduceLT, Nat.reduceLeDiff, Nat.reduceEqDiff, Int.reduceNeg, eitherK]) | (refine Rn.f ?hc ?_; case hc => simp (config := { implicitDefEqProofs := false, maxSteps := 2000000 }) (disch := omega) only [ps, ↓reduceIte, reduceCtorEq, Int.reduceLT, Int.reduceLE, Int.reduceEq, Nat.reduceLT, Nat.reduceLeDiff, Nat.reduceEqDiff, Int.reduceNeg, eitherK]))
            refine Rn.at hb ?_
            (first | (refine Rn.t ?hc ?_; case hc => simp (config := { implicitDefEqProofs := false, maxSteps := 2000000 }) (disch := omega) only [ps, ↓reduceIte, reduceCtorEq, Int.reduceLT, Int.reduceLE, Int.reduceEq, Nat.reduceLT, Nat.reduceLeDiff, Nat.reduceEqDiff, Int.reduceNeg, eitherK, hbx]) | (refine Rn.f ?hc ?_; case hc => simp (config := { implicitDefEqProofs := false, maxSteps := 2000000 }) (disch := omega) only [ps, ↓reduceIte, reduceCtorEq, Int.reduceLT, Int.reduceLE, Int.reduceEq, Nat.reduceLT, Nat.reduceLeDiff, Nat.reduceEqDiff, Int.reduceNeg, eitherK, hbx]))
            (first | (refine Rn.t ?hc ?_; case hc => simp (config := { implicitDefEqProofs := false, maxSteps := 2000000 }) (disch := omega) only [ps, ↓reduceIte, reduceCtorEq, Int.reduceLT, Int.reduceLE, Int.reduceEq, Nat.reduceLT, Nat.reduceLeDiff, Nat.reduceEqDiff, Int.reduceNeg, eitherK]) | (refine Rn.f ?hc ?_; case hc => simp (config := { implicitDefEqProofs := false, maxSteps := 2000000 }) (disch := omega) only [ps, ↓reduceIte, reduceCtorEq, Int.reduceLT, Int.reduceLE, Int.reduceEq, Nat.reduceLT, Nat.reduceLeDiff, Nat.reduceEqDiff, Int.reduceNeg, eitherK]))
            (first | (refine Rn.t ?hc ?_; case hc => simp (config := { implicitDefEqProofs := false, maxSteps := 2000000 }) (disch := omega) only [ps, ↓reduceIte, reduceCtorEq, Int.reduceLT, Int.reduceLE, Int.reduceEq, Nat.reduceLT, Nat.reduceLeDiff, Nat.reduceEqDiff, Int.reduceNeg, eitherK, Int.toNat_natCast, hbe]) | (refine Rn.f ?hc ?_; case hc => simp (config := { implicitDefEqProofs := false, maxSteps := 2000000 }) (disch := omega) only [ps, ↓reduceIte, reduceCtorEq, Int.reduceLT, Int.reduceLE, Int.reduceEq, Nat.reduceLT, Nat.reduceLeDiff, Nat.reduceEqDiff, Int.reduceNeg, eitherK, Int.toNat_natCast, hbe]))
            refine Rn.at hc ?_
            (first | (refine Rn.t ?hc ?_; case hc => simp (config := { implicitDefEqProofs := false, maxSteps := 2000000 }) (disch := omega) only [ps, ↓reduceIte, reduceCtorEq, Int.reduceLT, Int.reduceLE, Int.reduceEq, Nat.reduceLT, Nat.reduceLeDiff, Nat.reduceEqDiff, Int.reduceNeg, eitherK, hcy]) | (refine Rn.f ?hc ?_; case hc => simp (config := { implicitDefEqProofs := false, maxSteps := 2000000 }) (disch := omega) only [ps, ↓reduceIte, reduceCtorEq, Int.reduceLT, Int.reduceLE, Int.reduceEq, Nat.reduceLT, Nat.reduceLeDiff, Nat.reduceEqDiff, Int.reduceNeg, eitherK, hcy]))
            exact q1
          · refine absurd ⟨?_, ?_, ?_⟩ h
            · rw [hpd]; intro h; rw [h] at hy; cases hy
            · rw [hpd, hy]; intro h; exact absurd (Option.some.inj h) h48
            · rw [hpd, ← hbd]; exact hdc
          · rw [hpz, hpd, ← hbd]; exact q2
        · have q1 := ptail_no s (s.extract 1 s.size) (by omega) hdc
          refine ⟨(false, [], 3), ?_, fun h => by omega, fun _ _ => rfl, fun _ h => ?_⟩
          · (first | (refine Rn.t ?hc ?_; case hc => simp (config := { implicitDefEqProofs := false, maxSteps := 2000000 }) (disch := omega) only [ps, ↓reduceIte, reduceCtorEq, Int.reduceLT, Int.reduceLE, Int.reduceEq, Nat.reduceLT, Nat.reduceLeDiff, Nat.reduceEqDiff, Int.reduceNeg, eitherK]) | (refine Rn.f ?hc ?_; case hc => simp (config := { implicitDefEqProofs := false, maxSteps := 2000000 }) (disch := omega) only [ps, ↓reduceIte, reduceCtorEq, Int.reduceLT, Int.reduceLE, Int.reduceEq, Nat.reduceLT, Nat.reduceLeDiff, Nat.reduceEqDiff, Int.reduceNeg, eitherK]))
            (first | (refine Rn.t ?hc ?_; case hc => simp (config := { implicitDefEqProofs := false, maxSteps := 2000000 }) (disch := omega) only [ps, ↓reduceIte, reduceCtorEq, Int.reduceLT, Int.reduceLE, Int.reduceEq, Nat.reduceLT, Nat.reduceLeDiff, Nat.reduceEqDiff, Int.reduceNeg, eitherK]) | (refine Rn.f ?hc ?_; case hc => simp (config := { implicitDefEqProofs := false, maxSteps := 2000000 }) (disch := omega) only [ps, ↓reduceIte, reduceCtorEq, Int.reduceLT, Int.reduceLE, Int.reduceEq, Nat.reduceLT, Nat.reduceLeDiff, Nat.reduceEqDiff, Int.reduceNeg, eitherK]))
            refine Rn.at hb ?_
            (first | (refine Rn.t ?hc ?_; case hc => simp (config := { implicitDefEqProofs := false, maxSteps := 2000000 }) (disch := omega) only [ps, ↓reduceIte, reduceCtorEq, Int.reduceLT, Int.reduceLE, Int.reduceEq, Nat.reduceLT, Nat.reduceLeDiff, Nat.reduceEqDiff, Int.reduceNeg, eitherK, hbx]) | (refine Rn.f ?hc ?_; case hc => simp (config := { implicitDefEqProofs := false, maxSteps := 2000000 }) (disch := omega) only [ps, ↓reduceIte, reduceCtorEq, Int.reduceLT, Int.reduceLE, Int.reduceEq, Nat.reduceLT, Nat.reduceLeDiff, Nat.reduceEqDiff, Int.reduceNeg, eitherK, hbx]))
            (first | (refine Rn.t ?hc ?_; case hc => simp (config := { implicitDefEqProofs := false, maxSteps := 2000000 }) (disch := omega) only [ps, ↓reduceIte, reduceCtorEq, Int.reduceLT, Int.reduceLE, Int.reduceEq, Nat.reduceLT, Nat.reduceLeDiff, Nat.reduceEqDiff, Int.reduceNeg, eitherK]) | (refine Rn.f ?hc ?_; case hc => simp (config := { implicitDefEqProofs := false, maxSteps := 2000000 }) (disch := omega) only [ps, ↓reduceIte, reduceCtorEq, Int.reduceLT, Int.reduceLE, Int.reduceEq, Nat.reduceLT, Nat.reduceLeDiff, Nat.reduceEqDiff, Int.reduceNeg, eitherK]))
            (first | (refine Rn.t ?hc ?_; case hc => simp (config := { implicitDefEqProofs := false, maxSteps := 2000000 }) (disch := omega) only [ps, ↓reduceIte, reduceCtorEq, Int.reduceLT, Int.reduceLE, Int.reduceEq, Nat.reduceLT, Nat.reduceLeDiff, Nat.reduceEqDiff, Int.reduceNeg, eitherK, Int.toNat_natCast, hbe]) | (refine Rn.f ?hc ?_; case hc => simp (config := { implicitDefEqProofs := false, maxSteps := 2000000 }) (disch := omega) only [ps, ↓reduceIte, reduceCtorEq, Int.reduceLT, Int.reduceLE, Int.reduceEq, Nat.reduceLT, Nat.reduceLeDiff, Nat.reduceEqDiff, Int.reduceNeg, eitherK, Int.toNat_natCast, hbe]))
            refine Rn.at hc ?_
            (first | (refine Rn.t ?hc ?_; case hc => simp (config := { implicitDefEqProofs := false, maxSteps := 2000000 }) (disch := omega) only [ps, ↓reduceIte, reduceCtorEq, Int.reduceLT, Int.reduceLE, Int.reduceEq, Nat.reduceLT, Nat.reduceLeDiff, Nat.reduceEqDiff, Int.reduceNeg, eitherK, hcy]) | (refine Rn.f ?hc ?_; case hc => simp (config := { implicitDefEqProofs := false, maxSteps := 2000000 }) (disch := omega) only [ps, ↓reduceIte, reduceCtorEq, Int.reduceLT, Int.reduceLE, Int.reduceEq, Nat.reduceLT, Nat.reduceLeDiff, Nat.reduceEqDiff, Int.reduceNeg, eitherK, hcy]))
            exact q1
          · exact absurd (by have := h.2.2; rwa [hpd, ← hbd] at this) hdc
  · have hx45 : ¬ (byt s)[0]? = some 45 := by rw [hx]; intro h; exact h45 (Option.some.inj h)
    have hpd : Pd (byt s) = byt s := if_neg hx45
    have hpz : Pz (byt s) = hn 0 (Pd (byt s)) := if_neg hx45
    have hbe : (s.data.toList == (ByteArray.mk (List.toArray [])).data.toList) = false := by
      rw [byt_beq]
      exact decide_eq_false fun h => by
        have := congrArg List.length h
        have e : (byt (ByteArray.mk (List.toArray []))).length = 0 := rfl
        omega
    have hdne : (s.data.toList == s.data.toList) = !false := by rw [byt_beq]; exact decide_eq_true rfl
    have head : ∀ r, (x = 48 → byt s ≠ [48] → r = (false, [], 3)) → (¬ (x = 48 ∧ byt s ≠ [48]) → Rn (fun k => ptail k s s) r) → Rn (fun k => blimb_Parse k s) r := by
      intro r h1 h2
      unfold blimb_Parse
      (first | (refine Rn.t ?hc ?_; case hc => simp (config := { implicitDefEqProofs := false, maxSteps := 2000000 }) (disch := omega) only [ps, ↓reduceIte, reduceCtorEq, Int.reduceLT, Int.reduceLE, Int.reduceEq, Nat.reduceLT, Nat.reduceLeDiff, Nat.reduceEqDiff, Int.reduceNeg, eitherK]) | (refine Rn.f ?hc ?_; case hc => simp (config := { implicitDefEqProofs := false, maxSteps := 2000000 }) (disch := omega) only [ps, ↓reduceIte, reduceCtorEq, Int.reduceLT, Int.reduceLE, Int.reduceEq, Nat.reduceLT, Nat.reduceLeDiff, Nat.reduceEqDiff, Int.reduceNeg, eitherK]))
      (first | (refine Rn.t ?hc ?_; case hc => simp (config := { implicitDefEqProofs := false, maxSteps := 2000000 }) (disch := omega) only [ps, ↓reduceIte, reduceCtorEq, Int.reduceLT, Int.reduceLE, Int.reduceEq, Nat.reduceLT, Nat.reduceLeDiff, Nat.reduceEqDiff, Int.reduceNeg, eitherK]) | (refine Rn.f ?hc ?_; case hc => simp (config := { implicitDefEqProofs := false, maxSteps := 2000000 }) (disch := omega) only [ps, ↓reduceIte, reduceCtorEq, Int.reduceLT, Int.reduceLE, Int.reduceEq, Nat.reduceLT, Nat.reduceLeDiff, Nat.reduceEqDiff, Int.reduceNeg, eitherK]))
      refine Rn.at hb ?_
      (first | (refine Rn.t ?hc ?_; case hc => simp (config := { implicitDefEqProofs := false, maxSteps := 2000000 }) (disch := omega) only [ps, ↓reduceIte, reduceCtorEq, Int.reduceLT, Int.reduceLE, Int.reduceEq, Nat.reduceLT, Nat.reduceLeDiff, Nat.reduceEqDiff, Int.reduceNeg, eitherK, hbx]) | (refine Rn.f ?hc ?_; case hc => simp (config := { implicitDefEqProofs := false, maxSteps := 2000000 }) (disch := omega) only [ps, ↓reduceIte, reduceCtorEq, Int.reduceLT, Int.reduceLE, Int.reduceEq, Nat.reduceLT, Nat.reduceLeDiff, Nat.reduceEqDiff, Int.reduceNeg, eitherK, hbx]))
      (first | (refine Rn.t ?hc ?_; case hc => simp (config := { implicitDefEqProofs := false, maxSteps := 2000000 }) (disch := omega) only [ps, ↓reduceIte, reduceCtorEq, Int.reduceLT, Int.reduceLE, Int.reduceEq, Nat.reduceLT, Nat.reduceLeDiff, Nat.reduceEqDiff, Int.reduceNeg, eitherK, hbe]) | (refine Rn.f ?hc ?_; case hc => simp (config := { implicitDefEqProofs := false, maxSteps := 2000000 }) (disch := omega) only [ps, ↓reduceIte, reduceCtorEq, Int.reduceLT, Int.reduceLE, Int.reduceEq, Nat.reduceLT, Nat.reduceLeDiff, Nat.reduceEqDiff, Int.reduceNeg, eitherK, hbe]))
      refine Rn.at hb ?_
      by_cases h48 : x = 48
      · (first | (refine Rn.t ?hc ?_; case hc => simp (config := { implicitDefEqProofs := false, maxSteps := 2000000 }) (disch := omega) only [ps, ↓reduceIte, reduceCtorEq, Int.reduceLT, Int.reduceLE, Int.reduceEq, Nat.reduceLT, Nat.reduceLeDiff, Nat.reduceEqDiff, Int.reduceNeg, eitherK, hbx]) | (refine Rn.f ?hc ?_; case hc => simp (config := { implicitDefEqProofs := false, maxSteps := 2000000 }) (disch := omega) only [ps, ↓reduceIte, reduceCtorEq, Int.reduceLT, Int.reduceLE, Int.reduceEq, Nat.reduceLT, Nat.reduceLeDiff, Nat.reduceEqDiff, Int.reduceNeg, eitherK, hbx]))
        by_cases hne : byt s = [48]
        · have hb48 : (!(s.data.toList == (ByteArray.mk (List.toArray (48 :: []))).data.toList)) = false := by
            rw [byt_beq, hne]
            rfl
          (first | (refine Rn.t ?hc ?_; case hc => simp (config := { implicitDefEqProofs := false, maxSteps := 2000000 }) (disch := omega) only [ps, ↓reduceIte, reduceCtorEq, Int.reduceLT, Int.reduceLE, Int.reduceEq, Nat.reduceLT, Nat.reduceLeDiff, Nat.reduceEqDiff, Int.reduceNeg, eitherK, hb48]) | (refine Rn.f ?hc ?_; case hc => simp (config := { implicitDefEqProofs := false, maxSteps := 2000000 }) (disch := omega) only [ps, ↓reduceIte, reduceCtorEq, Int.reduceLT, Int.reduceLE, Int.reduceEq, Nat.reduceLT, Nat.reduceLeDiff, Nat.reduceEqDiff, Int.reduceNeg, eitherK, hb48]))
          exact h2 (fun h => h.2 hne)
        · have hb48 : (!(s.data.toList == (ByteArray.mk (List.toArray (48 :: []))).data.toList)) = true := by
            rw [byt_beq]
            rw [decide_eq_false (show ¬ byt s = byt (ByteArray.mk (List.toArray (48 :: []))) from hne)]
            rfl
          (first | (refine Rn.t ?hc ?_; case hc => simp (config := { implicitDefEqProofs := false, maxSteps := 2000000 }) (disch := omega) only [ps, ↓reduceIte, reduceCtorEq, Int.reduceLT, Int.reduceLE, Int.reduceEq, Nat.reduceLT, Nat.reduceLeDiff, Nat.reduceEqDiff, Int.reduceNeg, eitherK, hb48]) | (refine Rn.f ?hc ?_; case hc => simp (config := { implicitDefEqProofs := false, maxSteps := 2000000 }) (disch := omega) only [ps, ↓reduceIte, reduceCtorEq, Int.reduceLT, Int.reduceLE, Int.reduceEq, Nat.reduceLT, Nat.reduceLeDiff, Nat.reduceEqDiff, Int.reduceNeg, eitherK, hb48]))
          rw [h1 h48 hne]
          exact Rn.pure _
      · (first | (refine Rn.t ?hc ?_; case hc => simp (config := { implicitDefEqProofs := false, maxSteps := 2000000 }) (disch := omega) only [ps, ↓reduceIte, reduceCtorEq, Int.reduceLT, Int.reduceLE, Int.reduceEq, Nat.reduceLT, Nat.reduceLeDiff, Nat.reduceEqDiff, Int.reduceNeg, eitherK, hbx]) | (refine Rn.f ?hc ?_; case hc => simp (config := { implicitDefEqProofs := false, maxSteps := 2000000 }) (disch := omega) only [ps, ↓reduceIte, reduceCtorEq, Int.reduceLT, Int.reduceLE, Int.reduceEq, Nat.reduceLT, Nat.reduceLeDiff, Nat.reduceEqDiff, Int.reduceNeg, eitherK, hbx]))
        exact h2 (fun h => h48 h.1)
    unfold blimb_Parse at head
    by_cases hz : x = 48 ∧ byt s ≠ [48]
    · refine ⟨(false, [], 3), head _ (fun _ _ => rfl) (fun h => absurd hz h), fun h => by omega, fun _ _ => rfl, fun _ h => ?_⟩
      exact absurd (h.2.1 (by rw [hpd, hx, hz.1])) hz.2
    · by_cases hdc : Dc (byt s)
      · obtain ⟨a0, a1, q1, q2⟩ := ptail_ev s s false (by omega) (by omega) hdc hdne
        refine ⟨ans a0 a1, head _ (fun h1 h2 => absurd ⟨h1, h2⟩ hz) (fun _ => q1), fun h => by omega, fun _ h => ?_, fun _ h => ⟨a0, a1, ?_, rfl⟩⟩
        · refine absurd ⟨?_, ?_, ?_⟩ h
          · rw [hpd]; intro h; rw [h] at hx; cases hx
          · rw [hpd, hx]; intro h
            exact Classical.byContradiction fun h2 => hz ⟨Option.some.inj h, h2⟩
          · rw [hpd]; exact hdc
        · rw [hpz, hpd]; exact q2
      · have q1 := ptail_no s s (by omega) hdc
        refine ⟨(false, [], 3), head _ (fun h1 h2 => absurd ⟨h1, h2⟩ hz) (fun _ => q1), fun h => by omega, fun _ _ => rfl, fun _ h => ?_⟩
        exact absurd (by have := h.2.2; rwa [hpd] at this) hdc
end Go.Proofs.Ytghdpmejgonjmaa.Am
