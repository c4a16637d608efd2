/- Plain reckoning: Add, Sub, Cmp of the program's own whole numbers and of the layer; what is right, what is told. -/
import Derived.Test.YtghdpmejgonjmaaPlB2
set_option linter.unusedVariables false
set_option linter.unusedSimpArgs false
set_option maxRecDepth 10000
namespace Go.Proofs.Ytghdpmejgonjmaa.Am
open Go

theorem sum1_ev (yneg z x0 : Bool) (x1 y : List Int) (hx : x1.length ≤ 1000000000) (hy : y.length ≤ 1000000000) (cx : Cn W x1) (cy : Cn W y) :
    ∃ s l, Rn (fun k => Fbig_Int_sum_bot k yneg y z x0 x1) (s, l, x0, x1) ∧ Nm W s l ((if x0 then -(V W x1) else V W x1) + (if yneg then -(V W y) else V W y)) ∧ l.length ≤ max x1.length y.length + 1 := by
  obtain ⟨s, l, h1, h2⟩ := sum_any x0 yneg x1 y hx hy cx cy (fun k neg w => Fbig_Int_set_cvg k neg w z) (fun neg w hw => set1_ev neg z w hw) (fun r => (r.1, r.2, x0, x1))
  exact ⟨s, l, Rn.up (f := fun k => Fbig_Int_sum_bot k yneg y z x0 x1) h1, h2⟩
theorem sum2_ev (yneg x0 : Bool) (x1 y : List Int) (hx : x1.length ≤ 1000000000) (hy : y.length ≤ 1000000000) (cx : Cn W x1) (cy : Cn W y) :
    ∃ s l, Rn (fun k => Fbig_Int_sum_ahd k yneg y x0 x1) (s, l) ∧ Nm W s l ((if x0 then -(V W x1) else V W x1) + (if yneg then -(V W y) else V W y)) ∧ l.length ≤ max x1.length y.length + 1 := by
  obtain ⟨s, l, h1, h2⟩ := sum_any x0 yneg x1 y hx hy cx cy (fun k neg w => Fbig_Int_set_paj k neg w x0 x1) (fun neg w hw => set2_ev neg x0 w x1 hw) (fun r => (r.1, r.2))
  exact ⟨s, l, Rn.up (f := fun k => Fbig_Int_sum_ahd k yneg y x0 x1) h1, h2⟩
theorem Add1_ev (z x0 y0 : Bool) (x1 y1 : List Int) {x y : Int} (nx : Nm W x0 x1 x) (ny : Nm W y0 y1 y) (hx : x1.length ≤ 1000000000) (hy : y1.length ≤ 1000000000) :
    ∃ s l, Rn (fun k => Fbig_Int_Add_gsh k z x0 x1 y0 y1) (s, l, x0, x1, y0, y1) ∧ Nm W s l (x + y) ∧ l.length ≤ max x1.length y1.length + 1 := by
  obtain ⟨s, l, h1, h2, h3⟩ := sum1_ev y0 z x0 x1 y1 hx hy nx.c ny.c
  rw [nx.z, ny.z] at h2
  exact ⟨s, l, Rn.up (f := fun k => Fbig_Int_Add_gsh k z x0 x1 y0 y1) (Rn.bind h1 (Rn.pure _)), h2, h3⟩
theorem Add2_ev (x0 y0 : Bool) (x1 y1 : List Int) {x y : Int} (nx : Nm W x0 x1 x) (ny : Nm W y0 y1 y) (hx : x1.length ≤ 1000000000) (hy : y1.length ≤ 1000000000) :
    ∃ s l, Rn (fun k => Fbig_Int_Add_jod k x0 x1 y0 y1) (s, l, y0, y1) ∧ Nm W s l (x + y) ∧ l.length ≤ max x1.length y1.length + 1 := by
  obtain ⟨s, l, h1, h2, h3⟩ := sum2_ev y0 x0 x1 y1 hx hy nx.c ny.c
  rw [nx.z, ny.z] at h2
  exact ⟨s, l, Rn.up (f := fun k => Fbig_Int_Add_jod k x0 x1 y0 y1) (Rn.bind h1 (Rn.pure _)), h2, h3⟩
theorem Sub1_ev (z x0 y0 : Bool) (x1 y1 : List Int) {x y : Int} (nx : Nm W x0 x1 x) (ny : Nm W y0 y1 y) (hx : x1.length ≤ 1000000000) (hy : y1.length ≤ 1000000000) :
    ∃ s l, Rn (fun k => Fbig_Int_Sub_gsh k z x0 x1 y0 y1) (s, l, x0, x1, y0, y1) ∧ Nm W s l (x - y) ∧ l.length ≤ max x1.length y1.length + 1 := by
  obtain ⟨s, l, h1, h2, h3⟩ := sum1_ev (!y0) z x0 x1 y1 hx hy nx.c ny.c
  have e : (if (!y0) = true then -(V W y1) else V W y1) = -y := by
    have := ny.z
    cases y0 <;> simp at this ⊢ <;> omega
  rw [nx.z, e] at h2
  exact ⟨s, l, Rn.up (f := fun k => Fbig_Int_Sub_gsh k z x0 x1 y0 y1) (Rn.bind h1 (Rn.pure _)), h2.cast (by omega), h3⟩
/-- -1, 0 or 1. -/
def cmpZ (x y : Int) : Int := if x < y then -1 else if x = y then 0 else 1
theorem cmpZ_cases (x y : Int) : ∃ c, cmpZ x y = c ∧ (c = -1 ∧ x < y ∨ c = 0 ∧ x = y ∨ c = 1 ∧ y < x) := by
  unfold cmpZ
  rcases Int.lt_trichotomy x y with h | h | h
  · exact ⟨-1, by rw [if_pos h], .inl ⟨rfl, h⟩⟩
  · exact ⟨0, by rw [if_neg (by omega), if_pos h], .inr (.inl ⟨rfl, h⟩)⟩
  · exact ⟨1, by rw [if_neg (by omega), if_neg (by omega)], .inr (.inr ⟨rfl, h⟩)⟩
theorem Cmp_ev (x0 y0 : Bool) (x1 y1 : List Int) {x y : Int} (nx : Nm W x0 x1 x) (ny : Nm W y0 y1 y) (hx : x1.length ≤ 1000000000) (hy : y1.length ≤ 1000000000) :
    Rn (fun k => Fbig_Int_Cmp_ddu k x0 x1 y0 y1) (cmpZ x y, x0, x1, y0, y1) := by
  refine Rn.up (f := fun k => Fbig_Int_Cmp_ddu k x0 x1 y0 y1) ?_
  show Rn (fun k => bbig_Int_Cmp_ddu k x0 x1 y0 y1) _
  unfold bbig_Int_Cmp_ddu
  have px := V_nonneg (B := W) (by decide) nx.c.1
  have py := V_nonneg (B := W) (by decide) ny.c.1
  have qx := nx.c.nil_iff (B := W) (by decide)
  have qy := ny.c.nil_iff (B := W) (by decide)
  have zx := nx.z
  have zy := ny.z
  have sx := nx.sg
  have sy := ny.sg
  have hc := cmp_ev x1 y1 (by omega) (by omega) nx.c ny.c
  unfold cmpZ
  cases x0 <;> cases y0 <;> simp only [Bool.false_eq_true, if_false, if_true] at zx zy
  · simp (config := { implicitDefEqProofs := false, maxSteps := 2000000 }) (disch := omega) only [ps, ↓reduceIte, reduceCtorEq, Int.reduceLT, Int.reduceLE, Int.reduceEq, Nat.reduceLT, Nat.reduceLeDiff, Nat.reduceEqDiff, Int.reduceNeg, eitherK]
    refine Rn.bind hc ?_
    rw [zx, zy]; exact Rn.pure _
  · have := mt qy.2 (sy rfl)
    simp (config := { implicitDefEqProofs := false, maxSteps := 2000000 }) (disch := omega) only [ps, ↓reduceIte, reduceCtorEq, Int.reduceLT, Int.reduceLE, Int.reduceEq, Nat.reduceLT, Nat.reduceLeDiff, Nat.reduceEqDiff, Int.reduceNeg, eitherK]
    exact Rn.pure _
  · have := mt qx.2 (sx rfl)
    simp (config := { implicitDefEqProofs := false, maxSteps := 2000000 }) (disch := omega) only [ps, ↓reduceIte, reduceCtorEq, Int.reduceLT, Int.reduceLE, Int.reduceEq, Nat.reduceLT, Nat.reduceLeDiff, Nat.reduceEqDiff, Int.reduceNeg, eitherK]
    exact Rn.pure _
  · simp (config := { implicitDefEqProofs := false, maxSteps := 2000000 }) (disch := omega) only [ps, ↓reduceIte, reduceCtorEq, Int.reduceLT, Int.reduceLE, Int.reduceEq, Nat.reduceLT, Nat.reduceLeDiff, Nat.reduceEqDiff, Int.reduceNeg, eitherK]
    refine Rn.bind hc ?_
    have : IntKind.i64.wrap (0 - (if V W x1 < V W y1 then -1 else if V W x1 = V W y1 then 0 else 1)) = (if x < y then -1 else if x = y then 0 else 1) := by
      by_cases a : V W x1 < V W y1
      · simp (config := { implicitDefEqProofs := false, maxSteps := 2000000 }) (disch := omega) only [ps, ↓reduceIte, reduceCtorEq, Int.reduceLT, Int.reduceLE, Int.reduceEq, Nat.reduceLT, Nat.reduceLeDiff, Nat.reduceEqDiff, Int.reduceNeg, eitherK]
      · by_cases b : V W x1 = V W y1
        · simp (config := { implicitDefEqProofs := false, maxSteps := 2000000 }) (disch := omega) only [ps, ↓reduceIte, reduceCtorEq, Int.reduceLT, Int.reduceLE, Int.reduceEq, Nat.reduceLT, Nat.reduceLeDiff, Nat.reduceEqDiff, Int.reduceNeg, eitherK]
        · simp (config := { implicitDefEqProofs := false, maxSteps := 2000000 }) (disch := omega) only [ps, ↓reduceIte, reduceCtorEq, Int.reduceLT, Int.reduceLE, Int.reduceEq, Nat.reduceLT, Nat.reduceLeDiff, Nat.reduceEqDiff, Int.reduceNeg, eitherK]
    rw [this]; exact Rn.pure _

/-- A right whole number. -/
def Ri (a0 : Bool) (a1 : List Int) : Prop := a1.length ≤ 72 ∧ tl a1 = a1 ∧ (a0 = true → a1 ≠ [])
instance (a0 : Bool) (a1 : List Int) : Decidable (Ri a0 a1) := by unfold Ri; infer_instance
/-- What the words say, signed. -/
def Zv (B : Int) (a0 : Bool) (a1 : List Int) : Int := if a0 then -(V B a1) else V B a1
theorem Ri.nm {a0 : Bool} {a1 : List Int} (h : Ri a0 a1) (hd : Dg W a1) : Nm W a0 a1 (Zv W a0 a1) := ⟨⟨hd, h.2.1⟩, h.2.2, rfl⟩
theorem Nm.ri {a0 : Bool} {a1 : List Int} {z : Int} (h : Nm W a0 a1 z) (hl : a1.length ≤ 72) : Ri a0 a1 := ⟨hl, h.c.2, h.sg⟩
theorem check_ev (a0 : Bool) (a1 : List Int) (hl : a1.length ≤ 9223372036854775807) (hd : Dg W a1) : Rn (fun k => Flimb_Check k a0 a1) (if Ri a0 a1 then 0 else 10) := by
  refine Rn.up (f := fun k => Flimb_Check k a0 a1) ?_
  show Rn (fun k => blimb_Check k a0 a1) _
  unfold blimb_Check
  have hlast := Cn.last hd
  rcases List.eq_nil_or_concat a1 with rfl | ⟨m, x, rfl⟩
  · cases a0
    · rw [if_pos (show Ri false [] from ⟨by simp, rfl, by simp⟩)]
      simp (config := { implicitDefEqProofs := false, maxSteps := 2000000 }) (disch := omega) only [ps, ↓reduceIte, reduceCtorEq, Int.reduceLT, Int.reduceLE, Int.reduceEq, Nat.reduceLT, Nat.reduceLeDiff, Nat.reduceEqDiff, Int.reduceNeg, eitherK]
      exact Rn.pure _
    · rw [if_neg (show ¬ Ri true [] from fun h => h.2.2 rfl rfl)]
      simp (config := { implicitDefEqProofs := false, maxSteps := 2000000 }) (disch := omega) only [ps, ↓reduceIte, reduceCtorEq, Int.reduceLT, Int.reduceLE, Int.reduceEq, Nat.reduceLT, Nat.reduceLeDiff, Nat.reduceEqDiff, Int.reduceNeg, eitherK]
      exact Rn.pure _
  · rw [List.concat_eq_append] at *
    have hget : (m ++ [x])[m.length]? = some x := by simp
    have hlen : (m ++ [x]).length = m.length + 1 := by simp
    have h1 : (((m.length + 1 : Nat) : Int) - 1) = (m.length : Int) := by omega
    have hlast' : tl (m ++ [x]) = m ++ [x] ↔ x ≠ 0 := by
      rw [hlast]
      constructor
      · rintro (e | ⟨m', x', e, h0⟩)
        · simp at e
        · obtain ⟨_, e2⟩ := List.append_inj' e rfl
          simp only [List.cons.injEq, and_true] at e2
          rwa [e2]
      · intro h0; exact .inr ⟨m, x, rfl, h0⟩
    by_cases h72 : m.length + 1 ≤ 72
    · by_cases hx : x = 0
      · subst hx
        rw [if_neg (show ¬ Ri a0 (m ++ [0]) from fun h => hlast'.1 h.2.1 rfl)]
        simp (config := { implicitDefEqProofs := false, maxSteps := 2000000 }) (disch := omega) only [ps, ↓reduceIte, reduceCtorEq, Int.reduceLT, Int.reduceLE, Int.reduceEq, Nat.reduceLT, Nat.reduceLeDiff, Nat.reduceEqDiff, Int.reduceNeg, eitherK, hlen, h1, hget]
        exact Rn.pure _
      · rw [if_pos (show Ri a0 (m ++ [x]) from ⟨by omega, hlast'.2 hx, by simp⟩)]
        simp (config := { implicitDefEqProofs := false, maxSteps := 2000000 }) (disch := omega) only [ps, ↓reduceIte, reduceCtorEq, Int.reduceLT, Int.reduceLE, Int.reduceEq, Nat.reduceLT, Nat.reduceLeDiff, Nat.reduceEqDiff, Int.reduceNeg, eitherK, hlen, h1, hget, hx]
        exact Rn.pure _
    · rw [if_neg (show ¬ Ri a0 (m ++ [x]) from fun h => by have := h.1; omega)]
      simp (config := { implicitDefEqProofs := false, maxSteps := 2000000 }) (disch := omega) only [ps, ↓reduceIte, reduceCtorEq, Int.reduceLT, Int.reduceLE, Int.reduceEq, Nat.reduceLT, Nat.reduceLeDiff, Nat.reduceEqDiff, Int.reduceNeg, eitherK, hlen]
      exact Rn.pure _
theorem both_ev (a0 b0 : Bool) (a1 b1 : List Int) (ha : a1.length ≤ 9223372036854775807) (hb : b1.length ≤ 9223372036854775807) (da : Dg W a1) (db : Dg W b1) :
    Rn (fun k => Flimb_both k a0 a1 b0 b1) (if Ri a0 a1 ∧ Ri b0 b1 then 0 else 10) := by
  refine Rn.up (f := fun k => Flimb_both k a0 a1 b0 b1) ?_
  show Rn (fun k => blimb_both k a0 a1 b0 b1) _
  unfold blimb_both
  refine Rn.bind (check_ev a0 a1 ha da) ?_
  by_cases h1 : Ri a0 a1
  · simp only [h1, true_and, if_true]
    simp (config := { implicitDefEqProofs := false, maxSteps := 2000000 }) (disch := omega) only [ps, ↓reduceIte, reduceCtorEq, Int.reduceLT, Int.reduceLE, Int.reduceEq, Nat.reduceLT, Nat.reduceLeDiff, Nat.reduceEqDiff, Int.reduceNeg, eitherK]
    exact Rn.bind (check_ev b0 b1 hb db) (Rn.pure _)
  · simp only [h1, false_and, if_false]
    simp (config := { implicitDefEqProofs := false, maxSteps := 2000000 }) (disch := omega) only [ps, ↓reduceIte, reduceCtorEq, Int.reduceLT, Int.reduceLE, Int.reduceEq, Nat.reduceLT, Nat.reduceLeDiff, Nat.reduceEqDiff, Int.reduceNeg, eitherK]
    exact Rn.pure _
theorem Of_ev (neg : Bool) (w : List Int) (hl : w.length ≤ 1000000000) : Rn (fun k => Fbig_Of k neg w) (sgn neg w, tl w) := by
  refine Rn.up (f := fun k => Fbig_Of k neg w) ?_
  show Rn (fun k => bbig_Of k neg w) _
  unfold bbig_Of
  simp (config := { implicitDefEqProofs := false, maxSteps := 2000000 }) (disch := omega) only [ps, ↓reduceIte, reduceCtorEq, Int.reduceLT, Int.reduceLE, Int.reduceEq, Nat.reduceLT, Nat.reduceLeDiff, Nat.reduceEqDiff, Int.reduceNeg, eitherK, List.take_length]
  refine Rn.bind (trim_ev w (by omega)) ?_
  unfold sgn
  cases neg
  · simp (config := { implicitDefEqProofs := false, maxSteps := 2000000 }) (disch := omega) only [ps, ↓reduceIte, reduceCtorEq, Int.reduceLT, Int.reduceLE, Int.reduceEq, Nat.reduceLT, Nat.reduceLeDiff, Nat.reduceEqDiff, Int.reduceNeg, eitherK]; exact Rn.pure _
  · simp (config := { implicitDefEqProofs := false, maxSteps := 2000000 }) (disch := omega) only [ps, ↓reduceIte, reduceCtorEq, Int.reduceLT, Int.reduceLE, Int.reduceEq, Nat.reduceLT, Nat.reduceLeDiff, Nat.reduceEqDiff, Int.reduceNeg, eitherK]
    have : (decide ((0 : Int) < ((tl w).length : Int))) = decide (0 < (tl w).length) := by congr 1; simp
    rw [this]; exact Rn.pure _
theorem sgn_id {a0 : Bool} {a1 : List Int} (h : Ri a0 a1) : sgn a0 a1 = a0 := by
  unfold sgn
  rw [h.2.1]
  cases a0
  · rfl
  · have := h.2.2 rfl
    cases a1 with
    | nil => exact absurd rfl this
    | cons _ _ => rfl
theorem Take_ev (a0 : Bool) (a1 : List Int) (hl : a1.length ≤ 1000000000) : Rn (fun k => Fwide_Take k a0 a1) (sgn a0 a1, tl a1) :=
  Rn.up (f := fun k => Fwide_Take k a0 a1) (Rn.bind (Of_ev a0 a1 hl) (Rn.pure _))
theorem Take_ri {a0 : Bool} {a1 : List Int} (h : Ri a0 a1) : Rn (fun k => Fwide_Take k a0 a1) (a0, a1) := by
  have := Take_ev a0 a1 (by have := h.1; omega)
  rwa [sgn_id h, h.2.1] at this
theorem Give1_ev {z0 : Bool} {z1 : List Int} {z : Int} (hn : Nm W z0 z1 z) (hl : z1.length ≤ 1000000000) : Rn (fun k => Fwide_Give_awf k z0 z1) (z0, z1.length, z0, z1, z1) := by
  refine Rn.up (f := fun k => Fwide_Give_awf k z0 z1) ?_
  show Rn (fun k => bwide_Give_awf k z0 z1) _
  unfold bwide_Give_awf
  have h1 : Rn (fun k => Fbig_Int_Sign_awf k z0 z1) ((if z1 = [] then 0 else if z0 then -1 else 1 : Int), z0, z1) := by
    refine Rn.up (f := fun k => Fbig_Int_Sign_awf k z0 z1) ?_
    show Rn (fun k => bbig_Int_Sign_awf k z0 z1) _
    unfold bbig_Int_Sign_awf
    cases z1 with
    | nil => simp (config := { implicitDefEqProofs := false, maxSteps := 2000000 }) (disch := omega) only [ps, ↓reduceIte, reduceCtorEq, Int.reduceLT, Int.reduceLE, Int.reduceEq, Nat.reduceLT, Nat.reduceLeDiff, Nat.reduceEqDiff, Int.reduceNeg, eitherK]; exact Rn.pure _
    | cons y r =>
      have : (y :: r).length = r.length + 1 := rfl
      cases z0 <;> simp (config := { implicitDefEqProofs := false, maxSteps := 2000000 }) (disch := omega) only [ps, ↓reduceIte, reduceCtorEq, Int.reduceLT, Int.reduceLE, Int.reduceEq, Nat.reduceLT, Nat.reduceLeDiff, Nat.reduceEqDiff, Int.reduceNeg, eitherK, this] <;> exact Rn.pure _
  have h2 : Rn (fun k => Fbig_Int_Words_awf k z0 z1) (z1.length, z0, z1, z1) := by
    refine Rn.up (f := fun k => Fbig_Int_Words_awf k z0 z1) ?_
    show Rn (fun k => bbig_Int_Words_awf k z0 z1) _
    unfold bbig_Int_Words_awf
    simp (config := { implicitDefEqProofs := false, maxSteps := 2000000 }) (disch := omega) only [ps, ↓reduceIte, reduceCtorEq, Int.reduceLT, Int.reduceLE, Int.reduceEq, Nat.reduceLT, Nat.reduceLeDiff, Nat.reduceEqDiff, Int.reduceNeg, eitherK]; exact Rn.pure _
  refine Rn.bind h1 (Rn.bind h2 ?_)
  have hs := hn.sg
  have : (decide ((if z1 = [] then 0 else if z0 then -1 else 1 : Int) < 0)) = z0 := by
    cases z0
    · split <;> simp
    · rw [if_neg (hs rfl)]; rfl
  simp only [this]
  exact Rn.pure _
/-- The layer's answer: a number, or too wide. -/
def ans (s : Bool) (l : List Int) : Bool × List Int × Int := if l.length ≤ 72 then (s, l, 0) else (false, [], 13)
theorem answer1_ev {z0 : Bool} {z1 : List Int} {z : Int} (hn : Nm W z0 z1 z) (hl : z1.length ≤ 1000000000) : Rn (fun k => Flimb_answer_awf k z0 z1) ((ans z0 z1).1, (ans z0 z1).2.1.length, (ans z0 z1).2.2, z0, z1, (ans z0 z1).2.1) := by
  refine Rn.up (f := fun k => Flimb_answer_awf k z0 z1) ?_
  show Rn (fun k => blimb_answer_awf k z0 z1) _
  unfold blimb_answer_awf
  refine Rn.bind (Give1_ev hn hl) ?_
  unfold ans
  by_cases h : z1.length ≤ 72
  · simp (config := { implicitDefEqProofs := false, maxSteps := 2000000 }) (disch := omega) only [ps, ↓reduceIte, reduceCtorEq, Int.reduceLT, Int.reduceLE, Int.reduceEq, Nat.reduceLT, Nat.reduceLeDiff, Nat.reduceEqDiff, Int.reduceNeg, eitherK, h]; exact Rn.pure _
  · simp (config := { implicitDefEqProofs := false, maxSteps := 2000000 }) (disch := omega) only [ps, ↓reduceIte, reduceCtorEq, Int.reduceLT, Int.reduceLE, Int.reduceEq, Nat.reduceLT, Nat.reduceLeDiff, Nat.reduceEqDiff, Int.reduceNeg, eitherK, h]; exact Rn.pure _
theorem limbAdd_no {a0 b0 : Bool} {a1 b1 : List Int} (ha : a1.length ≤ 9223372036854775807) (hb : b1.length ≤ 9223372036854775807) (da : Dg W a1) (db : Dg W b1) (h : ¬ (Ri a0 a1 ∧ Ri b0 b1)) : Rn (fun k => Flimb_Add k a0 a1 b0 b1) (false, 0, 10, []) := by
  refine Rn.up (f := fun k => Flimb_Add k a0 a1 b0 b1) ?_
  show Rn (fun k => blimb_Add k a0 a1 b0 b1) _
  unfold blimb_Add
  refine Rn.bind (both_ev a0 b0 a1 b1 ha hb da db) ?_
  rw [if_neg h]
  simp (config := { implicitDefEqProofs := false, maxSteps := 2000000 }) (disch := omega) only [ps, ↓reduceIte, reduceCtorEq, Int.reduceLT, Int.reduceLE, Int.reduceEq, Nat.reduceLT, Nat.reduceLeDiff, Nat.reduceEqDiff, Int.reduceNeg, eitherK]
  exact Rn.pure _
theorem limbAdd_ev {a0 b0 : Bool} {a1 b1 : List Int} (da : Dg W a1) (db : Dg W b1) (h1 : Ri a0 a1) (h2 : Ri b0 b1) :
    ∃ s l, Nm W s l (Zv W a0 a1 + Zv W b0 b1) ∧ l.length ≤ max a1.length b1.length + 1 ∧ Rn (fun k => Flimb_Add k a0 a1 b0 b1) ((ans s l).1, (ans s l).2.1.length, (ans s l).2.2, (ans s l).2.1) := by
  have k1 := h1.1
  have k2 := h2.1
  obtain ⟨s, l, q1, q2, q3⟩ := Add1_ev false a0 b0 a1 b1 (h1.nm da) (h2.nm db) (by omega) (by omega)
  refine ⟨s, l, q2, q3, ?_⟩
  refine Rn.up (f := fun k => Flimb_Add k a0 a1 b0 b1) ?_
  show Rn (fun k => blimb_Add k a0 a1 b0 b1) _
  unfold blimb_Add
  refine Rn.bind (both_ev a0 b0 a1 b1 (by omega) (by omega) da db) ?_
  rw [if_pos ⟨h1, h2⟩]
  simp (config := { implicitDefEqProofs := false, maxSteps := 2000000 }) (disch := omega) only [ps, ↓reduceIte, reduceCtorEq, Int.reduceLT, Int.reduceLE, Int.reduceEq, Nat.reduceLT, Nat.reduceLeDiff, Nat.reduceEqDiff, Int.reduceNeg, eitherK]
  exact Rn.bind (Take_ri h1) (Rn.bind (Take_ri h2) (Rn.bind q1 (Rn.bind (answer1_ev q2 (show l.length ≤ 1000000000 by omega)) (Rn.pure _))))
theorem limbSub_no {a0 b0 : Bool} {a1 b1 : List Int} (ha : a1.length ≤ 9223372036854775807) (hb : b1.length ≤ 9223372036854775807) (da : Dg W a1) (db : Dg W b1) (h : ¬ (Ri a0 a1 ∧ Ri b0 b1)) : Rn (fun k => Flimb_Sub k a0 a1 b0 b1) (false, [], 10) := by
  refine Rn.up (f := fun k => Flimb_Sub k a0 a1 b0 b1) ?_
  show Rn (fun k => blimb_Sub k a0 a1 b0 b1) _
  unfold blimb_Sub
  refine Rn.bind (both_ev a0 b0 a1 b1 ha hb da db) ?_
  rw [if_neg h]
  simp (config := { implicitDefEqProofs := false, maxSteps := 2000000 }) (disch := omega) only [ps, ↓reduceIte, reduceCtorEq, Int.reduceLT, Int.reduceLE, Int.reduceEq, Nat.reduceLT, Nat.reduceLeDiff, Nat.reduceEqDiff, Int.reduceNeg, eitherK]
  exact Rn.pure _
theorem limbSub_ev {a0 b0 : Bool} {a1 b1 : List Int} (da : Dg W a1) (db : Dg W b1) (h1 : Ri a0 a1) (h2 : Ri b0 b1) :
    ∃ s l, Nm W s l (Zv W a0 a1 - Zv W b0 b1) ∧ l.length ≤ max a1.length b1.length + 1 ∧ Rn (fun k => Flimb_Sub k a0 a1 b0 b1) (ans s l) := by
  have k1 := h1.1
  have k2 := h2.1
  obtain ⟨s, l, q1, q2, q3⟩ := Sub1_ev false a0 b0 a1 b1 (h1.nm da) (h2.nm db) (by omega) (by omega)
  refine ⟨s, l, q2, q3, ?_⟩
  refine Rn.up (f := fun k => Flimb_Sub k a0 a1 b0 b1) ?_
  show Rn (fun k => blimb_Sub k a0 a1 b0 b1) _
  unfold blimb_Sub
  refine Rn.bind (both_ev a0 b0 a1 b1 (by omega) (by omega) da db) ?_
  rw [if_pos ⟨h1, h2⟩]
  simp (config := { implicitDefEqProofs := false, maxSteps := 2000000 }) (disch := omega) only [ps, ↓reduceIte, reduceCtorEq, Int.reduceLT, Int.reduceLE, Int.reduceEq, Nat.reduceLT, Nat.reduceLeDiff, Nat.reduceEqDiff, Int.reduceNeg, eitherK]
  refine Rn.bind (Take_ri h1) (Rn.bind (Take_ri h2) (Rn.bind q1 (Rn.bind (answer1_ev q2 (show l.length ≤ 1000000000 by omega)) ?_)))
  simp (config := { implicitDefEqProofs := false, maxSteps := 2000000 }) (disch := omega) only [ps, ↓reduceIte, reduceCtorEq, Int.reduceLT, Int.reduceLE, Int.reduceEq, Nat.reduceLT, Nat.reduceLeDiff, Nat.reduceEqDiff, Int.reduceNeg, eitherK, List.take_length]
  exact Rn.pure _
theorem limbCmp_no {a0 b0 : Bool} {a1 b1 : List Int} (ha : a1.length ≤ 9223372036854775807) (hb : b1.length ≤ 9223372036854775807) (da : Dg W a1) (db : Dg W b1) (h : ¬ (Ri a0 a1 ∧ Ri b0 b1)) : Rn (fun k => Flimb_Cmp k a0 a1 b0 b1) (0, 10) := by
  refine Rn.up (f := fun k => Flimb_Cmp k a0 a1 b0 b1) ?_
  show Rn (fun k => blimb_Cmp k a0 a1 b0 b1) _
  unfold blimb_Cmp
  refine Rn.bind (both_ev a0 b0 a1 b1 ha hb da db) ?_
  rw [if_neg h]
  simp (config := { implicitDefEqProofs := false, maxSteps := 2000000 }) (disch := omega) only [ps, ↓reduceIte, reduceCtorEq, Int.reduceLT, Int.reduceLE, Int.reduceEq, Nat.reduceLT, Nat.reduceLeDiff, Nat.reduceEqDiff, Int.reduceNeg, eitherK]
  exact Rn.pure _
theorem limbCmp_ev {a0 b0 : Bool} {a1 b1 : List Int} (da : Dg W a1) (db : Dg W b1) (h1 : Ri a0 a1) (h2 : Ri b0 b1) :
    Rn (fun k => Flimb_Cmp k a0 a1 b0 b1) (cmpZ (Zv W a0 a1) (Zv W b0 b1), 0) := by
  have k1 := h1.1
  have k2 := h2.1
  refine Rn.up (f := fun k => Flimb_Cmp k a0 a1 b0 b1) ?_
  show Rn (fun k => blimb_Cmp k a0 a1 b0 b1) _
  unfold blimb_Cmp
  refine Rn.bind (both_ev a0 b0 a1 b1 (by omega) (by omega) da db) ?_
  rw [if_pos ⟨h1, h2⟩]
  simp (config := { implicitDefEqProofs := false, maxSteps := 2000000 }) (disch := omega) only [ps, ↓reduceIte, reduceCtorEq, Int.reduceLT, Int.reduceLE, Int.reduceEq, Nat.reduceLT, Nat.reduceLeDiff, Nat.reduceEqDiff, Int.reduceNeg, eitherK]
  exact Rn.bind (Take_ri h1) (Rn.bind (Take_ri h2) (Rn.bind (Cmp_ev _ _ _ _ (h1.nm da) (h2.nm db) (show a1.length ≤ 1000000000 by omega) (show b1.length ≤ 1000000000 by omega)) (Rn.pure _)))
end Go.Proofs.Ytghdpmejgonjmaa.Am
