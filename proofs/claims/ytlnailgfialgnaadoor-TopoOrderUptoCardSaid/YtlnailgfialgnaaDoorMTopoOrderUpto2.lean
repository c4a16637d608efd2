/- The law TopoOrderUpto returns true for every input, and its arguments read as they did. -/
import Derived.Test.YtlnailgfialgnaaDoorMTopoOrderUpto1
import Derived.KernelRfl
import Derived.Test.YtlnailgfialgnaaDoorRows
import Derived.Test.YtlnailgfialgnaaDoorCards
import Derived.Test.YtlnailgfialgnaaDoorTie
import Derived.WalkKit
import Derived.ProofKit
import Derived.OpenShut
import Derived.ShutString
import Derived.ChangeOld
import Derived.Below
import Derived.SizedLaws
import Derived.Carry
import Derived.LaidMore
import Derived.Lay
import Derived.SevenTiedAt
import Derived.Stop.Joined
import Derived.Handed
import Derived.LaidLaws
import Derived.Deep.DeepHandedRow
import Derived.Lib.LaidTab

set_option linter.unusedVariables false
set_option linter.unusedSectionVars false
set_option linter.unusedSimpArgs false
set_option maxRecDepth 10000
namespace Go.Proofs.YtlnailgfialgnaaDoor.Am
open Go
/-- All numbers of a list are right. -/
def AllN (l : List (Int × Int)) : Prop := ∀ j, 0 ≤ j → j < l.length → okN (l.getD j (0, 0)).1 (l.getD j (0, 0)).2 = true
/-- A right model. -/
structure OkM (m1 : Int) (m2 m3 : List (Int × Int)) : Prop where
  gs : AllN m2
  vs : AllN m3
  kind : m1 = 115 ∧ m2.length = 2 ∧ m3.length = 1 ∨ m1 = 100 ∧ 1 ≤ m2.length ∧ m2.length ≤ 4 ∧ m3.length + 1 = m2.length ∧ ∀ j, 1 ≤ j → j < m3.length → valQ m3 (j - 1) < valQ m3 j
noncomputable def okM (m0 : ByteArray) (m1 : Int) (m2 m3 : List (Int × Int)) : Bool := nameOk m0 && @decide (OkM m1 m2 m3) (Classical.propDecidable _)
theorem okM_iff {m0 : ByteArray} {m1 : Int} {m2 m3 : List (Int × Int)} : okM m0 m1 m2 m3 = true ↔ nameOk m0 = true ∧ OkM m1 m2 m3 := by
  unfold okM
  rw [Bool.and_eq_true, @decide_eq_true_iff _ (Classical.propDecidable _)]
theorem okM_eq {m0 : ByteArray} {m1 : Int} {m2 m3 : List (Int × Int)} {b : Bool} (h : b = true ↔ nameOk m0 = true ∧ OkM m1 m2 m3) : b = okM m0 m1 m2 m3 := Bool.eq_iff_iff.2 (h.trans okM_iff.symm)
theorem cmpR_ge {a b : Rat} : cmpR a b ≥ 0 ↔ ¬ a < b := by
  obtain ⟨c, h1, h2⟩ := cmpR_cases a b
  rw [h1]
  rcases h2 with ⟨rfl, h⟩ | ⟨rfl, h⟩ | ⟨rfl, h⟩
  · simp [h]
  · subst h; simp
  · simp only [ge_iff_le]
    exact iff_of_true (by omega) (Rat.not_lt.2 (Rat.le_of_lt h))
section
variable (m0 : ByteArray) (m1 : Int) (m2 m3 : List (Int × Int)) (h0 : m0.size ≤ 1000000000000000000) (h2 : m2.length ≤ 1000000000000000000) (h3 : m3.length ≤ 1000000000000000000)
include h0 h2 h3
theorem mvalid2 (x : Int) (l : List (Int × Int)) (hl : l.length ≤ 1000000000000000000) : ∃ o, Rl (fun k n => Lmodel_Valid_2 k n m2 m3 x l l.length 0 m0 m1 m2 m3) o ∧
    (AllN l ∧ o = .inr (m2, m3, x, m0, m1, m2, m3) ∨ ¬ AllN l ∧ ∃ a : Bool × ByteArray × Int × List (Int × Int) × List (Int × Int) × Int × Int, a.1 = false ∧ o = .inl a) := by
  refine scan l.length 0 (fun k n i => Lmodel_Valid_2 k n m2 m3 x l l.length i m0 m1 m2 m3) (m2, m3, x, m0, m1, m2, m3) (fun a => a.1 = false) (fun j => okN (l.getD j (0, 0)).1 (l.getD j (0, 0)).2 = true) ?_ ?_ ?_ l.length 0 (by omega) (by omega)
  · refine Rl.up (f := fun k n => Lmodel_Valid_2 k n m2 m3 x l l.length l.length m0 m1 m2 m3) (Rl.of 0 fun k n _ => ?_)
    show Lmodel_Valid_2s k (Lmodel_Valid_2 k n) _ _ _ _ _ _ _ _ _ _ = _
    unfold Lmodel_Valid_2s
    exact if_neg (by simp)
  · intro i hs hi hok o ho
    refine Rl.up (f := fun k n => Lmodel_Valid_2 k n m2 m3 x l l.length i m0 m1 m2 m3) ?_
    show Rl (fun k n => Lmodel_Valid_2s k (Lmodel_Valid_2 k n) _ _ _ _ _ _ _ _ _ _) _
    unfold Lmodel_Valid_2s
    refine Rl.t (decide_eq_true (by omega)) (Rl.t (by omega) (Rl.at (getD_some (0, 0) (by omega)) (Rl.bind (numValid_ev _ _) (Rl.f (by rw [Int.toNat_natCast, hok]; decide) ?_))))
    rw [wrap_i64 (by omega)]
    exact ho
  · intro i hs hi hok
    refine ⟨(false, m0, m1, m2, m3, l.getD i (0, 0)), rfl, Rl.up (f := fun k n => Lmodel_Valid_2 k n m2 m3 x l l.length i m0 m1 m2 m3) ?_⟩
    show Rl (fun k n => Lmodel_Valid_2s k (Lmodel_Valid_2 k n) _ _ _ _ _ _ _ _ _ _) _
    unfold Lmodel_Valid_2s
    refine Rl.t (decide_eq_true (by omega)) (Rl.t (by omega) (Rl.at (getD_some (0, 0) (by rw [Int.toNat_natCast]; omega)) (Rl.bind (numValid_ev _ _) (Rl.t (by rw [Int.toNat_natCast, Bool.eq_false_iff.2 hok]; decide) ?_))))
    rw [Int.toNat_natCast]
    exact Rl.pure _
theorem mvalid0 : ∃ o, Rl (fun k n => Lmodel_Valid_0 k n m2 m3 0 m0 m1 m2 m3) o ∧
    ((AllN m2 ∧ AllN m3) ∧ o = .inr (m0, m1, m2, m3) ∨ ¬ (AllN m2 ∧ AllN m3) ∧ ∃ a : Bool × ByteArray × Int × List (Int × Int) × List (Int × Int) × Int × Int, a.1 = false ∧ o = .inl a) := by
  obtain ⟨o1, a1, a2⟩ := mvalid2 m0 m1 m2 m3 h0 h2 h3 0 m2 h2
  obtain ⟨o2, b1, b2⟩ := mvalid2 m0 m1 m2 m3 h0 h2 h3 1 m3 h3
  have up0 : ∀ {o}, Rl (fun k n => Lmodel_Valid_0s k (Lmodel_Valid_0 k n) m2 m3 0 m0 m1 m2 m3) o → Rl (fun k n => Lmodel_Valid_0 k n m2 m3 0 m0 m1 m2 m3) o := fun h => Rl.up (f := fun k n => Lmodel_Valid_0 k n m2 m3 0 m0 m1 m2 m3) h
  have up1 : ∀ {o}, Rl (fun k n => Lmodel_Valid_0s k (Lmodel_Valid_0 k n) m2 m3 1 m0 m1 m2 m3) o → Rl (fun k n => Lmodel_Valid_0 k n m2 m3 1 m0 m1 m2 m3) o := fun h => Rl.up (f := fun k n => Lmodel_Valid_0 k n m2 m3 1 m0 m1 m2 m3) h
  have s2 : Rl (fun k n => Lmodel_Valid_0 k n m2 m3 2 m0 m1 m2 m3) (.inr (m0, m1, m2, m3)) := by
    refine Rl.up (f := fun k n => Lmodel_Valid_0 k n m2 m3 2 m0 m1 m2 m3) ?_
    show Rl (fun k n => Lmodel_Valid_0s k (Lmodel_Valid_0 k n) m2 m3 2 m0 m1 m2 m3) _
    unfold Lmodel_Valid_0s
    exact Rl.f (by decide) (Rl.pure _)
  unfold Lmodel_Valid_0s at up0 up1
  rcases a2 with ⟨a2, rfl⟩ | ⟨a2, ⟨q1, q2, q3, q4, q5, q6, q7⟩, e, rfl⟩
  · rcases b2 with ⟨b2, rfl⟩ | ⟨b2, ⟨q1, q2, q3, q4, q5, q6, q7⟩, e, rfl⟩
    · exact ⟨_, up0 (Rl.t (by decide) (Rl.t rfl (Rl.bind a1.diag (up1 (Rl.t (by decide) (Rl.f (by decide) (Rl.t (by decide) (Rl.bind b1.diag s2)))))))), .inl ⟨⟨a2, b2⟩, rfl⟩⟩
    · exact ⟨_, up0 (Rl.t (by decide) (Rl.t rfl (Rl.bind a1.diag (up1 (Rl.t (by decide) (Rl.f (by decide) (Rl.t (by decide) (Rl.bind b1.diag (Rl.pure (Sum.inl (q1, q2, q3, q4, q5, q6, q7))))))))))), .inr ⟨fun h => b2 h.2, _, e, rfl⟩⟩
  · exact ⟨_, up0 (Rl.t (by decide) (Rl.t rfl (Rl.bind a1.diag (Rl.pure (Sum.inl (q1, q2, q3, q4, q5, q6, q7)))))), .inr ⟨fun h => a2 h.1, _, e, rfl⟩⟩
theorem mvalid5 (hv : AllN m3) (hlen : 1 ≤ m3.length) : ∃ o, Rl (fun k n => Lmodel_Valid_5 k n 1 m0 m1 m2 m3) o ∧
    ((∀ j, 1 ≤ j → j < m3.length → valQ m3 (j - 1) < valQ m3 j) ∧ o = .inr (m0, m1, m2, m3) ∨ (¬ ∀ j, 1 ≤ j → j < m3.length → valQ m3 (j - 1) < valQ m3 j) ∧ ∃ a : Bool × ByteArray × Int × List (Int × Int) × List (Int × Int), a.1 = false ∧ o = .inl a) := by
  have hc : ∀ i, 1 ≤ i → i < m3.length → Rn (fun k => Fnum_Cmp k (m3.getD (i - 1) (0, 0)).1 (m3.getD (i - 1) (0, 0)).2 (m3.getD i (0, 0)).1 (m3.getD i (0, 0)).2) (cmpR (valQ m3 (i - 1)) (valQ m3 i), 0) := by
    intro i h1 h2
    have := numCmp_ev (m3.getD (i - 1) (0, 0)).1 (m3.getD (i - 1) (0, 0)).2 (m3.getD i (0, 0)).1 (m3.getD i (0, 0)).2
    rw [if_pos ⟨hv (i - 1) (by omega) (by omega), hv i (by omega) h2⟩] at this
    exact this
  refine scan m3.length 1 (fun k n i => Lmodel_Valid_5 k n i m0 m1 m2 m3) (m0, m1, m2, m3) (fun a => a.1 = false) (fun j => valQ m3 (j - 1) < valQ m3 j) ?_ ?_ ?_ (m3.length - 1) 1 (by omega) (by omega)
  · refine Rl.up (f := fun k n => Lmodel_Valid_5 k n m3.length m0 m1 m2 m3) (Rl.of 0 fun k n _ => ?_)
    show Lmodel_Valid_5s k (Lmodel_Valid_5 k n) _ _ _ _ _ = _
    unfold Lmodel_Valid_5s
    exact if_neg (by simp)
  · intro i hs hi hok o ho
    refine Rl.up (f := fun k n => Lmodel_Valid_5 k n i m0 m1 m2 m3) ?_
    show Rl (fun k n => Lmodel_Valid_5s k (Lmodel_Valid_5 k n) _ _ _ _ _) _
    unfold Lmodel_Valid_5s
    have e1 : (IntKind.i64.wrap ((i : Int) - 1)) = ((i - 1 : Nat) : Int) := by rw [wrap_i64 (by omega)]; omega
    rw [e1]
    refine Rl.t (decide_eq_true (by omega)) (Rl.t (by omega) (Rl.at (getD_some (0, 0) (by rw [Int.toNat_natCast]; omega)) (Rl.t (by omega) (Rl.at (getD_some (0, 0) (by rw [Int.toNat_natCast]; omega)) ?_))))
    rw [Int.toNat_natCast, Int.toNat_natCast]
    refine Rl.bind (hc i hs hi) (Rl.f (by rw [decide_eq_true_eq, cmpR_ge]; exact fun h => h hok) ?_)
    rw [wrap_i64 (by omega)]
    exact ho
  · intro i hs hi hok
    refine ⟨(false, m0, m1, m2, m3), rfl, Rl.up (f := fun k n => Lmodel_Valid_5 k n i m0 m1 m2 m3) ?_⟩
    show Rl (fun k n => Lmodel_Valid_5s k (Lmodel_Valid_5 k n) _ _ _ _ _) _
    unfold Lmodel_Valid_5s
    have e1 : (IntKind.i64.wrap ((i : Int) - 1)) = ((i - 1 : Nat) : Int) := by rw [wrap_i64 (by omega)]; omega
    rw [e1]
    refine Rl.t (decide_eq_true (by omega)) (Rl.t (by omega) (Rl.at (getD_some (0, 0) (by rw [Int.toNat_natCast]; omega)) (Rl.t (by omega) (Rl.at (getD_some (0, 0) (by rw [Int.toNat_natCast]; omega)) ?_))))
    rw [Int.toNat_natCast, Int.toNat_natCast]
    exact Rl.bind (hc i hs hi) (Rl.t (by rw [decide_eq_true_eq, cmpR_ge]; exact hok) (Rl.pure _))
theorem modelValid_ev : Rn (fun k => Fmodel_Valid k m0 m1 m2 m3) (okM m0 m1 m2 m3) := by
  refine Rn.up (f := fun k => Fmodel_Valid k m0 m1 m2 m3) ?_
  show Rn (fun k => bmodel_Valid k m0 m1 m2 m3) _
  unfold bmodel_Valid
  refine Rn.bind (Name_ev m0 h0) ?_
  by_cases hn : nameOk m0 = true
  rotate_left
  · refine Rn.t (by simp [hn]) (Rn.const (congrArg some (okM_eq (by simp [hn]))))
  refine Rn.f (by simp [hn]) ?_
  obtain ⟨o, a1, a2⟩ := mvalid0 m0 m1 m2 m3 h0 h2 h3
  refine Rn.bind a1.diag ?_
  rcases a2 with ⟨⟨g1, g2⟩, rfl⟩ | ⟨a2, ⟨q1, q2, q3, q4, q5, q6, q7⟩, e, rfl⟩
  rotate_left
  · exact Rn.const (congrArg some (okM_eq (by simp only at e; subst e; simp only [Bool.false_eq_true, false_iff]; exact fun h => a2 ⟨h.2.gs, h.2.vs⟩)))
  show Rn (fun k => if (m1 == 115) = true then _ else if (m1 == 100) = true then _ else _) _
  by_cases k1 : m1 = 115
  · refine Rn.t (by rw [beq_iff_eq]; exact k1) ?_
    by_cases c1 : m2.length = 2
    · refine Rn.t (by rw [beq_iff_eq]; exact congrArg _ c1) (Rn.const (congrArg some (okM_eq ?_)))
      rw [beq_iff_eq]
      constructor
      · intro h; have h : (m3.length : Int) = 1 := h; exact ⟨hn, g1, g2, .inl ⟨k1, c1, by omega⟩⟩
      · rintro ⟨_, h⟩; show (m3.length : Int) = 1; have := h.kind; omega
    · refine Rn.f (by rw [beq_iff_eq]; show ¬ (m2.length : Int) = 2; omega) (Rn.const (congrArg some (okM_eq ?_)))
      simp only [Bool.false_eq_true, false_iff]
      rintro ⟨_, h⟩; have := h.kind; omega
  refine Rn.f (by rw [beq_iff_eq]; exact k1) ?_
  by_cases k2 : m1 = 100
  rotate_left
  · refine Rn.f (by rw [beq_iff_eq]; exact k2) (Rn.const (congrArg some (okM_eq ?_)))
    simp only [Bool.false_eq_true, false_iff]
    rintro ⟨_, h⟩; have := h.kind; omega
  refine Rn.t (by rw [beq_iff_eq]; exact k2) ?_
  by_cases c1 : m2.length < 1
  · refine Rn.f (by rw [decide_eq_false_iff_not]; show ¬ ¬ (m2.length : Int) < 1; omega) (Rn.const (congrArg some (okM_eq ?_)))
    simp only [Bool.false_eq_true, false_iff]
    rintro ⟨_, h⟩; have := h.kind; omega
  refine Rn.t (by rw [decide_eq_false_iff_not]; show ¬ (m2.length : Int) < 1; omega) ?_
  by_cases c2 : m2.length > 4
  · refine Rn.f (by rw [decide_eq_false_iff_not]; show ¬ ¬ (m2.length : Int) > 4; omega) (Rn.const (congrArg some (okM_eq ?_)))
    simp only [Bool.false_eq_true, false_iff]
    rintro ⟨_, h⟩; have := h.kind; omega
  refine Rn.t (by rw [decide_eq_false_iff_not]; show ¬ (m2.length : Int) > 4; omega) ?_
  have e1 : (IntKind.i64.wrap ((m2.length : Int) - 1)) = (m2.length : Int) - 1 := wrap_i64 (by omega)
  by_cases c3 : m3.length + 1 = m2.length
  rotate_left
  · refine Rn.t (by rw [bne_iff_ne, ne_eq]; show ¬ (m3.length : Int) = IntKind.i64.wrap ((m2.length : Int) - 1); rw [e1]; omega) (Rn.const (congrArg some (okM_eq ?_)))
    simp only [Bool.false_eq_true, false_iff]
    rintro ⟨_, h⟩; have := h.kind; omega
  refine Rn.f (by rw [bne_iff_ne, ne_eq]; show ¬ ¬ (m3.length : Int) = IntKind.i64.wrap ((m2.length : Int) - 1); rw [e1]; omega) ?_
  by_cases c4 : m3.length = 0
  · have hz : Rl (fun k n => Lmodel_Valid_5 k n 1 m0 m1 m2 m3) (.inr (m0, m1, m2, m3)) := by
      refine Rl.up (f := fun k n => Lmodel_Valid_5 k n 1 m0 m1 m2 m3) (Rl.of 0 fun k n _ => ?_)
      show Lmodel_Valid_5s k (Lmodel_Valid_5 k n) _ _ _ _ _ = _
      unfold Lmodel_Valid_5s
      exact if_neg (by rw [decide_eq_true_eq]; omega)
    exact Rn.bind hz.diag (Rn.const (congrArg some (okM_eq (iff_of_true rfl ⟨hn, g1, g2, .inr ⟨k2, by omega, by omega, c3, fun j j1 j2 => by omega⟩⟩))))
  obtain ⟨o, b1, b2⟩ := mvalid5 m0 m1 m2 m3 h0 h2 h3 g2 (by omega)
  refine Rn.bind b1.diag ?_
  rcases b2 with ⟨b2, rfl⟩ | ⟨b2, ⟨q1, q2, q3, q4, q5⟩, e, rfl⟩
  · exact Rn.const (congrArg some (okM_eq (iff_of_true rfl ⟨hn, g1, g2, .inr ⟨k2, by omega, by omega, c3, b2⟩⟩)))
  · refine Rn.const (congrArg some (okM_eq ?_))
    simp only at e
    subst e
    simp only [Bool.false_eq_true, false_iff]
    rintro ⟨_, h⟩
    rcases h.kind with k | k
    · omega
    · exact b2 k.2.2.2.2
end
end Go.Proofs.YtlnailgfialgnaaDoor.Am

/- Plain reckoning: which devices may stand in a circuit. -/
set_option linter.unusedVariables false
set_option linter.unusedSimpArgs false
set_option maxRecDepth 10000
namespace Go.Proofs.YtlnailgfialgnaaDoor.Am
open Go
/-- How many nodes a kind has; 0: it is none. -/
def kindN (k : Int) : Int := if k = 114 ∨ k = 99 ∨ k = 108 ∨ k = 118 ∨ k = 105 ∨ k = 102 ∨ k = 104 ∨ k = 100 then 2 else if k = 101 ∨ k = 103 ∨ k = 116 ∨ k = 115 then 4 else 0
def kTab : List (Int × Int) := [(114, 2), (99, 2), (108, 2), (118, 2), (105, 2), (101, 4), (103, 4), (102, 2), (104, 2), (116, 4), (100, 2), (115, 4)]
theorem kTab_eq : mapS (.int .u8) (.int .i64) (mapS (.int .u8) (.int .i64) (mapS (.int .u8) (.int .i64) (mapS (.int .u8) (.int .i64) (mapS (.int .u8) (.int .i64) (mapS (.int .u8) (.int .i64) (mapS (.int .u8) (.int .i64) (mapS (.int .u8) (.int .i64) (mapS (.int .u8) (.int .i64) (mapS (.int .u8) (.int .i64) (mapS (.int .u8) (.int .i64) (mapS (.int .u8) (.int .i64) [] (114 : Int) (2 : Int)) (99 : Int) (2 : Int)) (108 : Int) (2 : Int)) (118 : Int) (2 : Int)) (105 : Int) (2 : Int)) (101 : Int) (4 : Int)) (103 : Int) (4 : Int)) (102 : Int) (2 : Int)) (104 : Int) (2 : Int)) (116 : Int) (4 : Int)) (100 : Int) (2 : Int)) (115 : Int) (4 : Int) = kTab := by rfl
theorem find_cons (p : Int × Int) (r : List (Int × Int)) (x : Int) : findG (.int .u8) (.int .i64) (p :: r) x = if (x == p.1) = true then some (0, p.2) else (findG (.int .u8) (.int .i64) r x).bind fun q => some (q.1 + 1, q.2) := rfl
theorem mapG_cons (p : Int × Int) (r : List (Int × Int)) (x z : Int) : mapG (.int .u8) (.int .i64) (p :: r) x z = if x = p.1 then p.2 else mapG (.int .u8) (.int .i64) r x z := by
  unfold mapG
  rw [find_cons]
  by_cases h : x = p.1
  · rw [if_pos (beq_iff_eq.2 h), if_pos h]
  · rw [if_neg (by simpa using h), if_neg h]
    cases findG (.int .u8) (.int .i64) r x <;> rfl
def lookI : List (Int × Int) → Int → Int → Int
  | [], _, z => z
  | p :: r, x, z => if x = p.1 then p.2 else lookI r x z
theorem mapG_look : ∀ (l : List (Int × Int)) (x z : Int), mapG (.int .u8) (.int .i64) l x z = lookI l x z
  | [], _, _ => rfl
  | p :: r, x, z => (mapG_cons p r x z).trans (by rw [lookI, mapG_look r x z])
theorem kTab_at (k : Int) : mapG (.int .u8) (.int .i64) kTab k 0 = kindN k := by
  refine (mapG_look kTab k 0).trans ?_
  unfold kTab kindN
  simp only [lookI]
  repeat' split
  all_goals first | rfl | omega
def noW (d6 : Int) (d7 : List (Int × Int)) (d8 : List Int) : Bool := decide (d6 = 0 ∧ d7.length = 0 ∧ d8.length = 0)
def noM (d9 : ByteArray) (d10 : Int) (d11 d12 : List (Int × Int)) : Bool := decide (d9.data.toList = [] ∧ d10 = 0 ∧ d11.length = 0 ∧ d12.length = 0)
def rngB (n : Nat) (l : List Int) : Bool := l.all fun x => decide (0 ≤ x ∧ x < n)
def refV (f1 : List Dv) (r : Int) : Bool := decide (0 ≤ r ∧ r < f1.length) && (match f1[r.toNat]? with | some x => decide (x.1 = 118) | none => false)
/-- May the device stand in the circuit? -/
noncomputable def okR (n : Nat) (f1 : List Dv) (d0 : Int) (d1 : ByteArray) (d2 : List Int) (d3 d4 d5 d6 : Int) (d7 : List (Int × Int)) (d8 : List Int) (d9 : ByteArray) (d10 : Int) (d11 d12 : List (Int × Int)) : Bool :=
  decide (kindN d0 ≠ 0) && decide ((d2.length : Int) = kindN d0) && lngB d1 && rngB n d2 &&
  (if d0 = 118 ∨ d0 = 105 then okW d6 d7 d8 && decide (d4 = 0) && decide (d5 = 0) && noM d9 d10 d11 d12 && decide (d3 = 0)
   else if d0 = 100 ∨ d0 = 115 then noW d6 d7 d8 && decide (d4 = 0) && decide (d5 = 0) && okM d9 d10 d11 d12 && decide (d10 = d0) && decide (d3 = 0)
   else (if d0 = 102 ∨ d0 = 104 then refV f1 d3 else decide (d3 = 0)) && okN d4 d5 && (decide (d4 ≠ 0) || !decide (d0 = 114 ∨ d0 = 99 ∨ d0 = 108)) && noW d6 d7 d8 && noM d9 d10 d11 d12)
theorem noWave_ev (d6 : Int) (d7 : List (Int × Int)) (d8 : List Int) (h7 : d7.length ≤ 1000000000000000000) (h8 : d8.length ≤ 1000000000000000000) : Rn (fun k => Fflat_noWave k d6 d7 d8) (noW d6 d7 d8) := by
  refine Rn.up (f := fun k => Fflat_noWave k d6 d7 d8) ?_
  show Rn (fun k => bflat_noWave k d6 d7 d8) _
  unfold bflat_noWave noW
  by_cases c : d6 = 0
  · refine Rn.t (by simp [c]) (Rn.const (congrArg some ?_))
    rw [wrap_i64 (by omega), Bool.eq_iff_iff, beq_iff_eq, decide_eq_true_eq]
    omega
  · exact Rn.f (by simp [c]) (Rn.const (congrArg some (decide_eq_false (by omega)).symm))
theorem noModel_ev (d9 : ByteArray) (d10 : Int) (d11 d12 : List (Int × Int)) (h7 : d11.length ≤ 1000000000000000000) (h8 : d12.length ≤ 1000000000000000000) : Rn (fun k => Fflat_noModel k d9 d10 d11 d12) (noM d9 d10 d11 d12) := by
  refine Rn.up (f := fun k => Fflat_noModel k d9 d10 d11 d12) ?_
  show Rn (fun k => bflat_noModel k d9 d10 d11 d12) _
  unfold bflat_noModel noM
  by_cases c : d9.data.toList = []
  · refine Rn.t (by rw [c]; rfl) ?_
    by_cases c2 : d10 = 0
    · refine Rn.t (by simp [c2]) (Rn.const (congrArg some ?_))
      rw [wrap_i64 (by omega), Bool.eq_iff_iff, beq_iff_eq, decide_eq_true_eq]
      exact ⟨fun h => ⟨c, c2, by omega, by omega⟩, fun h => by omega⟩
    · exact Rn.f (by simp [c2]) (Rn.const (congrArg some (decide_eq_false (fun h => c2 h.2.1)).symm))
  · refine Rn.f ?_ (Rn.const (congrArg some (decide_eq_false (fun h => c h.1)).symm))
    rw [beq_iff_eq]
    exact c
section
variable (f0 : List ByteArray) (f1 : List Dv) (f2 f3 f4 : Int) (d0 : Int) (d1 : ByteArray) (d2 : List Int) (d3 d4 d5 d6 : Int) (d7 : List (Int × Int)) (d8 : List Int) (d9 : ByteArray) (d10 : Int) (d11 d12 : List (Int × Int))
variable (h1 : d1.size ≤ 1000000000000) (h2 : d2.length ≤ 1000000000000000000) (h7 : d7.length ≤ 1000000000000000000) (h8 : d8.length ≤ 1000000000000000000) (h9 : d9.size ≤ 1000000000000000000) (h11 : d11.length ≤ 1000000000000000000) (h12 : d12.length ≤ 1000000000000000000)
include h2
theorem right_loop : Rn (fun k => Lflat_right_0 k k d2 d2.length 0 f0 f1 f2 f3 f4 d0 d1 d2 d3 d4 d5 d6 d7 d8 d9 d10 d11 d12)
    (if rngB f0.length d2 = true then .inr (f0, f1, f2, f3, f4, d0, d1, d2, d3, d4, d5, d6, d7, d8, d9, d10, d11, d12) else .inl (false, f0, f1, f2, f3, f4, d0, d1, d2, d3, d4, d5, d6, d7, d8, d9, d10, d11, d12)) := by
  obtain ⟨o, b1, b2⟩ := scan d2.length 0 (fun k q i => Lflat_right_0 k q d2 d2.length i f0 f1 f2 f3 f4 d0 d1 d2 d3 d4 d5 d6 d7 d8 d9 d10 d11 d12) (f0, f1, f2, f3, f4, d0, d1, d2, d3, d4, d5, d6, d7, d8, d9, d10, d11, d12)
    (fun a => a = (false, f0, f1, f2, f3, f4, d0, d1, d2, d3, d4, d5, d6, d7, d8, d9, d10, d11, d12)) (fun j => 0 ≤ d2.getD j 0 ∧ d2.getD j 0 < f0.length) (by
      refine Rl.up (f := fun k q => Lflat_right_0 k q d2 d2.length d2.length f0 f1 f2 f3 f4 d0 d1 d2 d3 d4 d5 d6 d7 d8 d9 d10 d11 d12) ?_
      show Rl (fun k q => Lflat_right_0s k (Lflat_right_0 k q) _ _ _ _ _ _ _ _ _ _ _ _ _ _ _ _ _ _ _ _ _) _
      unfold Lflat_right_0s
      exact Rl.f (by simp) (Rl.pure _)) (by
      intro i hs hi hok o ho
      refine Rl.up (f := fun k q => Lflat_right_0 k q d2 d2.length i f0 f1 f2 f3 f4 d0 d1 d2 d3 d4 d5 d6 d7 d8 d9 d10 d11 d12) ?_
      show Rl (fun k q => Lflat_right_0s k (Lflat_right_0 k q) _ _ _ _ _ _ _ _ _ _ _ _ _ _ _ _ _ _ _ _ _) _
      unfold Lflat_right_0s
      rw [wrap_i64 (x := (i : Int) + 1) (by omega)]
      exact Rl.t (by first | omega | (simp only [decide_eq_true_eq, decide_eq_false_iff_not, Int.toNat_natCast, beq_iff_eq, bne_iff_ne, ne_eq, Int.not_lt, Int.not_le, ge_iff_le, gt_iff_lt, beq_eq_false_iff_ne, Nat.zero_add]; omega)) (Rl.t (by first | omega | (simp only [decide_eq_true_eq, decide_eq_false_iff_not, Int.toNat_natCast, beq_iff_eq, bne_iff_ne, ne_eq, Int.not_lt, Int.not_le, ge_iff_le, gt_iff_lt, beq_eq_false_iff_ne, Nat.zero_add]; omega)) (Rl.at (by rw [Int.toNat_natCast]; exact getD_some 0 hi) (Rl.t (decide_eq_false (by omega)) (Rl.f (by rw [decide_eq_true_eq]; omega) ho)))) ) (by
      intro i hs hi hok
      refine ⟨_, rfl, Rl.up (f := fun k q => Lflat_right_0 k q d2 d2.length i f0 f1 f2 f3 f4 d0 d1 d2 d3 d4 d5 d6 d7 d8 d9 d10 d11 d12) ?_⟩
      show Rl (fun k q => Lflat_right_0s k (Lflat_right_0 k q) _ _ _ _ _ _ _ _ _ _ _ _ _ _ _ _ _ _ _ _ _) _
      unfold Lflat_right_0s
      refine Rl.t (by first | omega | (simp only [decide_eq_true_eq, decide_eq_false_iff_not, Int.toNat_natCast, beq_iff_eq, bne_iff_ne, ne_eq, Int.not_lt, Int.not_le, ge_iff_le, gt_iff_lt, beq_eq_false_iff_ne, Nat.zero_add]; omega)) (Rl.t (by first | omega | (simp only [decide_eq_true_eq, decide_eq_false_iff_not, Int.toNat_natCast, beq_iff_eq, bne_iff_ne, ne_eq, Int.not_lt, Int.not_le, ge_iff_le, gt_iff_lt, beq_eq_false_iff_ne, Nat.zero_add]; omega)) (Rl.at (by rw [Int.toNat_natCast]; exact getD_some 0 hi) ?_))
      by_cases c : d2.getD i 0 < 0
      · exact Rl.f (by simp; exact c) (Rl.pure _)
      · exact Rl.t (decide_eq_false c) (Rl.t (by rw [decide_eq_true_eq]; omega) (Rl.pure _))) d2.length 0 (by omega) (by omega)
  have hall : rngB f0.length d2 = true ↔ ∀ j, 0 ≤ j → j < d2.length → 0 ≤ d2.getD j 0 ∧ d2.getD j 0 < f0.length := by
    unfold rngB
    rw [all_getD]
    simp only [decide_eq_true_eq]
  rcases b2 with ⟨b2, rfl⟩ | ⟨b2, a, rfl, rfl⟩
  · rw [if_pos (hall.2 b2)]; exact b1.diag
  · rw [if_neg (fun h => b2 (hall.1 h))]; exact b1.diag
include h1 h7 h8 h9 h11 h12
theorem fright_ev : Rn (fun k => Fflat_right k f0 f1 f2 f3 f4 d0 d1 d2 d3 d4 d5 d6 d7 d8 d9 d10 d11 d12) (okR f0.length f1 d0 d1 d2 d3 d4 d5 d6 d7 d8 d9 d10 d11 d12) := by
  refine Rn.up (f := fun k => Fflat_right k f0 f1 f2 f3 f4 d0 d1 d2 d3 d4 d5 d6 d7 d8 d9 d10 d11 d12) ?_
  show Rn (fun k => bflat_right k f0 f1 f2 f3 f4 d0 d1 d2 d3 d4 d5 d6 d7 d8 d9 d10 d11 d12) _
  obtain ⟨K1, g1⟩ := flong_ev d1 h1
  obtain ⟨K2, g2⟩ := right_loop f0 f1 f2 f3 f4 d0 d1 d2 d3 d4 d5 d6 d7 d8 d9 d10 d11 d12 h2
  obtain ⟨K3, g3⟩ := waveValid_ev d6 d7 d8 h7 h8
  obtain ⟨K4, g4⟩ := noModel_ev d9 d10 d11 d12 h11 h12
  obtain ⟨K5, g5⟩ := noWave_ev d6 d7 d8 h7 h8
  obtain ⟨K6, g6⟩ := modelValid_ev d9 d10 d11 d12 h9 h11 h12
  obtain ⟨K7, g7⟩ := numValid_ev d4 d5
  refine ⟨K1 + K2 + K3 + K4 + K5 + K6 + K7, fun k hk => ?_⟩
  have e1 : Fflat_long k d1 = _ := g1 k (by omega)
  have e2 : Lflat_right_0 k k d2 d2.length 0 f0 f1 f2 f3 f4 d0 d1 d2 d3 d4 d5 d6 d7 d8 d9 d10 d11 d12 = _ := g2 k (by omega)
  have e3 : Fwave_Valid k d6 d7 d8 = _ := g3 k (by omega)
  have e4 : Fflat_noModel k d9 d10 d11 d12 = _ := g4 k (by omega)
  have e5 : Fflat_noWave k d6 d7 d8 = _ := g5 k (by omega)
  have e6 : Fmodel_Valid k d9 d10 d11 d12 = _ := g6 k (by omega)
  have e7 : Fnum_Valid k d4 d5 = _ := g7 k (by omega)
  clear hk g1 g2 g3 g4 g5 g6 g7 h1 h2 h7 h8 h9 h11 h12
  show bflat_right k f0 f1 f2 f3 f4 d0 d1 d2 d3 d4 d5 d6 d7 d8 d9 d10 d11 d12 = _
  unfold bflat_right
  rw [kTab_eq, kTab_at]
  by_cases c0 : kindN d0 = 0
  · rw [if_neg (by simp [c0])]
    simp [okR, c0]
  rw [if_pos (by simpa using c0)]
  by_cases c1 : (d2.length : Int) = kindN d0
  rotate_left
  · rw [if_neg (by simpa using c1)]
    simp [okR, c1]
  rw [if_pos (by simpa using c1), e1]
  simp only [Option.bind_some]
  cases hl : lngB d1
  · simp [okR, hl]
  simp only [Bool.not_true, Bool.false_eq_true, if_false, e2]
  cases hr : rngB f0.length d2
  · simp [okR, hl, hr, eitherK]
  simp only [if_true, Option.bind_some, eitherK, e3, e4, e5, e6, e7]
  have hok : okR f0.length f1 d0 d1 d2 d3 d4 d5 d6 d7 d8 d9 d10 d11 d12 = (if d0 = 118 ∨ d0 = 105 then okW d6 d7 d8 && decide (d4 = 0) && decide (d5 = 0) && noM d9 d10 d11 d12 && decide (d3 = 0)
   else if d0 = 100 ∨ d0 = 115 then noW d6 d7 d8 && decide (d4 = 0) && decide (d5 = 0) && okM d9 d10 d11 d12 && decide (d10 = d0) && decide (d3 = 0)
   else (if d0 = 102 ∨ d0 = 104 then refV f1 d3 else decide (d3 = 0)) && okN d4 d5 && (decide (d4 ≠ 0) || !decide (d0 = 114 ∨ d0 = 99 ∨ d0 = 108)) && noW d6 d7 d8 && noM d9 d10 d11 d12) := by
    simp [okR, c0, c1, hl, hr]
  rw [hok]
  clear hok e1 e2 e3 e4 e5 e6 e7 c1 hl hr c0
  generalize okW d6 d7 d8 = w
  generalize noM d9 d10 d11 d12 = nm
  generalize noW d6 d7 d8 = nw
  generalize okM d9 d10 d11 d12 = mo
  generalize okN d4 d5 = nn
  have href : ∀ r : Int, 0 ≤ r → r < f1.length → ∃ x, f1[r.toNat]? = some x := fun r h h' => ⟨_, List.getElem?_eq_getElem (by omega)⟩
  by_cases k1 : d0 = 118
  · subst k1; simp; cases w <;> cases nm <;> simp <;> grind
  by_cases k2 : d0 = 105
  · subst k2; simp; cases w <;> cases nm <;> simp <;> grind
  by_cases k3 : d0 = 100
  · subst k3; simp; cases nw <;> cases mo <;> simp <;> grind
  by_cases k4 : d0 = 115
  · subst k4; simp; cases nw <;> cases mo <;> simp <;> grind
  have hf : ∀ (X : Int × ByteArray × List Int × Int × (Int × Int) × (Int × List (Int × Int) × List Int) × ByteArray × Int × List (Int × Int) × List (Int × Int) → Option Bool), refV f1 d3 = false → (∀ x, x.1 ≠ 118 → X x = some false) → (if decide (d3 < 0) = false then if decide (d3 ≥ ((f1.length : Nat) : Int)) = false then if 0 ≤ d3 then Option.bind f1[d3.toNat]? X else none else some false else some false) = some false := by
    intro X hv hX
    by_cases a1 : d3 < 0
    · rw [if_neg (by simpa using a1)]
    · rw [if_pos (by simpa using a1)]
      by_cases a2 : d3 ≥ ((f1.length : Nat) : Int)
      · rw [if_neg (by simpa using a2)]
      · obtain ⟨x, hx⟩ := href d3 (by omega) (by omega)
        rw [if_pos (by simpa using a2), if_pos (by omega), hx, Option.bind_some]
        refine hX x fun e => ?_
        simp [refV, hx, e] at hv
        omega
  have ht : ∀ (X : Int × ByteArray × List Int × Int × (Int × Int) × (Int × List (Int × Int) × List Int) × ByteArray × Int × List (Int × Int) × List (Int × Int) → Option Bool) (r : Option Bool), refV f1 d3 = true → (∀ x, x.1 = 118 → X x = r) → (if decide (d3 < 0) = false then if decide (d3 ≥ ((f1.length : Nat) : Int)) = false then if 0 ≤ d3 then Option.bind f1[d3.toNat]? X else none else some false else some false) = r := by
    intro X r hv hX
    simp only [refV, Bool.and_eq_true, decide_eq_true_eq] at hv
    obtain ⟨x, hx⟩ := href d3 (by omega) (by omega)
    rw [hx] at hv
    rw [if_pos (by simp; omega), if_pos (by simp; omega), if_pos (by omega), hx, Option.bind_some]
    exact hX x (by simpa using hv.2)
  by_cases k5 : d0 = 102
  · subst k5
    rw [if_neg (by decide), if_neg (by decide), if_neg (by decide), if_neg (by decide), if_pos (by decide)]
    cases hv : refV f1 d3
    · rw [hf _ hv (fun x hx => by rw [if_pos (by simpa using hx)])]
      simp [hv]
    · refine ht _ _ hv (fun x hx => ?_)
      rw [if_neg (by simpa using hx)]
      simp
      cases nn <;> cases nw <;> cases nm <;> simp <;> grind
  by_cases k6 : d0 = 104
  · subst k6
    rw [if_neg (by decide), if_neg (by decide), if_neg (by decide), if_neg (by decide), if_neg (by decide), if_pos (by decide)]
    cases hv : refV f1 d3
    · rw [hf _ hv (fun x hx => by rw [if_pos (by simpa using hx)])]
      simp [hv]
    · refine ht _ _ hv (fun x hx => ?_)
      rw [if_neg (by simpa using hx)]
      simp
      cases nn <;> cases nw <;> cases nm <;> simp <;> grind
  rw [if_neg (by simpa using k1), if_neg (by simpa using k2), if_neg (by simpa using k3), if_neg (by simpa using k4), if_neg (by simpa using k5), if_neg (by simpa using k6)]
  rw [if_neg (by omega : ¬ (d0 = 118 ∨ d0 = 105)), if_neg (by omega : ¬ (d0 = 100 ∨ d0 = 115)), if_neg (by omega : ¬ (d0 = 102 ∨ d0 = 104))]
  by_cases z3 : d3 = 0
  rotate_left
  · rw [if_pos (by simpa using z3)]; simp [z3]
  rw [if_neg (by simpa using z3)]
  by_cases k7 : d0 = 114
  · subst k7; simp [z3]; cases nn <;> cases nw <;> cases nm <;> simp <;> grind
  by_cases k8 : d0 = 99
  · subst k8; simp [z3]; cases nn <;> cases nw <;> cases nm <;> simp <;> grind
  by_cases k9 : d0 = 108
  · subst k9; simp [z3]; cases nn <;> cases nw <;> cases nm <;> simp <;> grind
  · simp [z3, k7, k8, k9]; cases nn <;> cases nw <;> cases nm <;> simp <;> grind
end
end Go.Proofs.YtlnailgfialgnaaDoor.Am

/- Plain reckoning: names that stand twice; unknowns. -/
set_option linter.unusedVariables false
set_option linter.unusedSimpArgs false
set_option maxRecDepth 10000
namespace Go.Proofs.YtlnailgfialgnaaDoor.Am
open Go
/-- Does a text stand twice? -/
def twB (l : List ByteArray) : Bool := !decide ((l.map dl).Nodup)
def keysS (s : List (ByteArray × Int)) : List (List UInt8) := s.map fun p => dl p.1
theorem findS_none : ∀ (s : List (ByteArray × Int)) (x : ByteArray), dl x ∉ keysS s → findG .str (.int .i64) s x = none
  | [], _, _ => rfl
  | p :: r, x, h => by
    have h1 : ¬ dl x = dl p.1 := fun e => h (by simp [keysS, e])
    have h2 := findS_none r x (fun e => h (by simp [keysS] at e ⊢; exact .inr e))
    unfold findG
    have e : kEq .str x p.1 = false := by
      show ((dl x) == (dl p.1)) = false
      rw [beq_eq_false_iff_ne]
      exact h1
    rw [e]
    simp only [Bool.false_eq_true, if_false]
    rw [h2]; rfl
theorem findS_some : ∀ (s : List (ByteArray × Int)) (x : ByteArray), dl x ∈ keysS s → ∃ q, findG .str (.int .i64) s x = some q ∧ ∃ p, s[q.1]? = some p ∧ dl p.1 = dl x
  | [], _, h => by simp [keysS] at h
  | p :: r, x, h => by
    unfold findG
    by_cases h1 : dl x = dl p.1
    · have e : kEq .str x p.1 = true := by
        show ((dl x) == (dl p.1)) = true
        rw [beq_iff_eq]
        exact h1
      rw [e]
      exact ⟨_, if_pos rfl, p, rfl, h1.symm⟩
    · have e : kEq .str x p.1 = false := by
        show ((dl x) == (dl p.1)) = false
        rw [beq_eq_false_iff_ne]
        exact h1
      obtain ⟨q, h2, p', h3, h4⟩ := findS_some r x (by
        simp only [keysS, List.map_cons, List.mem_cons] at h
        rcases h with h | h
        · exact absurd h h1
        · exact h)
      rw [e, h2]
      exact ⟨(q.1 + 1, q.2), rfl, p', h3, h4⟩
theorem mapS_new {s : List (ByteArray × Int)} {x : ByteArray} (v : Int) (h : dl x ∉ keysS s) : mapS .str (.int .i64) s x v = s ++ [(x, v)] := by
  unfold mapS
  rw [findS_none s x h]
theorem mapS_old {s : List (ByteArray × Int)} {x : ByteArray} (v : Int) (h : dl x ∈ keysS s) : ∃ s' : List (ByteArray × Int), mapS .str (.int .i64) s x v = s' ∧ s'.length = s.length ∧ keysS s' = keysS s := by
  obtain ⟨q, h1, p, h2, h3⟩ := findS_some s x h
  refine ⟨s.set q.1 (x, v), ?_, List.length_set, ?_⟩
  · unfold mapS
    rw [h1]
  · have hq := (List.getElem?_eq_some_iff.1 h2)
    obtain ⟨hlt, hp⟩ := hq
    unfold keysS
    rw [List.map_set]
    apply List.ext_getElem?
    intro j
    by_cases c : q.1 = j
    · subst c
      rw [List.getElem?_set_self (by rw [List.length_map]; exact hlt), List.getElem?_map, h2]
      show some (dl x) = some (dl p.1)
      rw [h3]
    · rw [List.getElem?_set_ne c]
theorem twice_loop2 (l : List ByteArray) (hl : l.length ≤ 1000000000000000000) : ∀ (d i : Nat) (seen : List (ByteArray × Int)), i + d = l.length → (∀ y, y ∈ keysS seen ↔ y ∈ (l.take i).map dl) → seen.length ≤ i → (seen.length = i ↔ ((l.take i).map dl).Nodup) →
    ∃ s' : List (ByteArray × Int), Rl (fun k q => Lflat_twice_0 k q l l l.length (i : Int) seen) (l, s') ∧ s'.length ≤ l.length ∧ (s'.length = l.length ↔ (l.map dl).Nodup) := by
  intro d
  induction d with
  | zero =>
    intro i seen e hk h1 h2
    have ei : i = l.length := by omega
    subst ei
    rw [List.take_length] at h2
    refine ⟨seen, Rl.up (f := fun k q => Lflat_twice_0 k q l l l.length (l.length : Int) seen) ?_, h1, h2⟩
    show Rl (fun k q => Lflat_twice_0s k (Lflat_twice_0 k q) _ _ _ _ _) _
    unfold Lflat_twice_0s
    exact Rl.f (by first | omega | (simp only [decide_eq_true_eq, decide_eq_false_iff_not, Int.toNat_natCast, beq_iff_eq, bne_iff_ne, ne_eq, Int.not_lt, Int.not_le, ge_iff_le, gt_iff_lt, beq_eq_false_iff_ne, Nat.zero_add]; omega)) (Rl.pure _)
  | succ d ih =>
    intro i seen e hk h1 h2
    have hi : i < l.length := by omega
    have eg : l[i]? = some l[i] := List.getElem?_eq_getElem hi
    have et : (l.take (i + 1)).map dl = (l.take i).map dl ++ [dl l[i]] := by rw [List.take_add_one, eg, List.map_append]; rfl
    obtain ⟨s2, f1, f2, f3⟩ : ∃ s2 : List (ByteArray × Int), mapS .str (.int .i64) seen l[i] (IntKind.i64.wrap (mapG .str (.int .i64) seen l[i] 0 + 1)) = s2 ∧ (∀ y, y ∈ keysS s2 ↔ y ∈ (l.take (i + 1)).map dl) ∧ s2.length ≤ i + 1 ∧ (s2.length = i + 1 ↔ ((l.take (i + 1)).map dl).Nodup) := by
      rw [et]
      have nd : ((l.take i).map dl ++ [dl l[i]]).Nodup ↔ ((l.take i).map dl).Nodup ∧ dl l[i] ∉ (l.take i).map dl := by
        rw [List.nodup_append]
        constructor
        · intro ⟨a, b, c⟩
          exact ⟨a, fun hm => c _ hm _ (by simp) rfl⟩
        · intro ⟨a, b⟩
          exact ⟨a, by simp, fun x hx y hy => by simp at hy; subst hy; exact fun e => b (e ▸ hx)⟩
      by_cases c : dl l[i] ∈ keysS seen
      · obtain ⟨s', m1, m2, m3⟩ := mapS_old (IntKind.i64.wrap (mapG .str (.int .i64) seen l[i] 0 + 1)) c
        refine ⟨s', m1, fun y => ?_, by omega, ?_⟩
        · rw [m3, hk, List.mem_append, List.mem_singleton]
          exact ⟨.inl, fun h => h.elim id fun e => by rw [e]; exact (hk _).1 c⟩
        · rw [nd]
          exact ⟨fun h => by omega, fun h => absurd ((hk _).1 c) h.2⟩
      · refine ⟨_, mapS_new _ c, fun y => ?_, by rw [List.length_append]; simp; omega, ?_⟩
        · unfold keysS at hk ⊢
          rw [List.map_append, List.mem_append, hk, List.mem_append]
          rfl
        · rw [nd, List.length_append]
          simp only [List.length_singleton, Nat.add_right_cancel_iff]
          exact ⟨fun h => ⟨h2.1 h, fun hm => c ((hk _).2 hm)⟩, fun h => h2.2 h.1⟩
    obtain ⟨s', b1, b2, b3⟩ := ih (i + 1) s2 (by omega) f2 f3.1 f3.2
    refine ⟨s', Rl.up (f := fun k q => Lflat_twice_0 k q l l l.length (i : Int) seen) ?_, b2, b3⟩
    show Rl (fun k q => Lflat_twice_0s k (Lflat_twice_0 k q) _ _ _ _ _) _
    unfold Lflat_twice_0s
    rw [wrap_i64 (x := (i : Int) + 1) (by omega)]
    refine Rl.t (by first | omega | (simp only [decide_eq_true_eq, decide_eq_false_iff_not, Int.toNat_natCast, beq_iff_eq, bne_iff_ne, ne_eq, Int.not_lt, Int.not_le, ge_iff_le, gt_iff_lt, beq_eq_false_iff_ne, Nat.zero_add]; omega)) (Rl.t (by first | omega | (simp only [decide_eq_true_eq, decide_eq_false_iff_not, Int.toNat_natCast, beq_iff_eq, bne_iff_ne, ne_eq, Int.not_lt, Int.not_le, ge_iff_le, gt_iff_lt, beq_eq_false_iff_ne, Nat.zero_add]; omega)) (Rl.at (by rw [Int.toNat_natCast]; exact eg) ?_))
    rw [f1]
    exact b1
theorem twiceB_ev (l : List ByteArray) (hl : l.length ≤ 1000000000000000000) : Rn (fun k => Fflat_twice k l) (twB l) := by
  obtain ⟨s', b1, b2, b3⟩ := twice_loop2 l hl l.length 0 [] (by omega) (by simp [keysS]) (by simp) (by simp)
  refine Rn.up (f := fun k => Fflat_twice k l) ?_
  show Rn (fun k => bflat_twice k l) _
  unfold bflat_twice twB
  refine Rn.bind b1.diag (Rn.const (congrArg some ?_))
  rw [Bool.eq_iff_iff, bne_iff_ne, Bool.not_eq_true', decide_eq_false_iff_not, ← b3]
  show (((s'.length : Nat) : Int) ≠ ((l.length : Nat) : Int)) ↔ _
  omega
/-- The kinds that bear a current of their own. -/
def bBr : ByteArray := ByteArray.mk (List.toArray (118 :: (101 :: (104 :: (99 :: (108 :: (116 :: [])))))))
def brB (d : Dv) : Bool := decide (0 ≤ idxB bBr d.1)
def brL : Int → List Dv → List Int
  | _, [] => []
  | n, d :: l => if brB d then n :: brL (n + 1) l else -1 :: brL n l
def cntB (l : List Dv) : Nat := l.countP brB
theorem brL_len : ∀ (l : List Dv) (n : Int), (brL n l).length = l.length
  | [], _ => rfl
  | d :: l, n => by unfold brL; split <;> simp [brL_len l]
theorem count_loop (f1 : List Dv) (hl : f1.length ≤ 1000000000) : ∀ (d i : Nat) (n : Int) (ls : List Int), i + d = f1.length → ls.length = i → 0 ≤ n + 1 → n ≤ 1000000000 + i →
    Rl (fun k q => Lflat_count_0 k q n ls.length f1 f1.length (i : Int) ls) (n + cntB (f1.drop i), f1.length, ls ++ brL n (f1.drop i)) := by
  intro d
  induction d with
  | zero =>
    intro i n ls e h1 h2 h3
    obtain rfl : i = f1.length := by omega
    rw [List.drop_length]
    refine Rl.up (f := fun k q => Lflat_count_0 k q n ls.length f1 f1.length (f1.length : Int) ls) ?_
    show Rl (fun k q => Lflat_count_0s k (Lflat_count_0 k q) _ _ _ _ _ _) _
    unfold Lflat_count_0s
    simp only [brL, List.append_nil]
    rw [h1]
    exact Rl.f (by first | omega | (simp only [decide_eq_true_eq, decide_eq_false_iff_not, Int.toNat_natCast, beq_iff_eq, bne_iff_ne, ne_eq, Int.not_lt, Int.not_le, ge_iff_le, gt_iff_lt, beq_eq_false_iff_ne, Nat.zero_add]; omega)) (by simpa [cntB] using Rl.pure _)
  | succ d ih =>
    intro i n ls e h1 h2 h3
    have hi : i < f1.length := by omega
    have eg : f1[i]? = some f1[i] := List.getElem?_eq_getElem hi
    have edr : f1.drop i = f1[i] :: f1.drop (i + 1) := List.drop_eq_getElem_cons hi
    generalize f1[i] = x at eg edr
    rw [edr]
    refine Rl.up (f := fun k q => Lflat_count_0 k q n ls.length f1 f1.length (i : Int) ls) ?_
    show Rl (fun k q => Lflat_count_0s k (Lflat_count_0 k q) _ _ _ _ _ _) _
    unfold Lflat_count_0s
    rw [wrap_i64 (x := (i : Int) + 1) (by omega)]
    refine Rl.t (by first | omega | (simp only [decide_eq_true_eq, decide_eq_false_iff_not, Int.toNat_natCast, beq_iff_eq, bne_iff_ne, ne_eq, Int.not_lt, Int.not_le, ge_iff_le, gt_iff_lt, beq_eq_false_iff_ne, Nat.zero_add]; omega)) (Rl.t (by first | omega | (simp only [decide_eq_true_eq, decide_eq_false_iff_not, Int.toNat_natCast, beq_iff_eq, bne_iff_ne, ne_eq, Int.not_lt, Int.not_le, ge_iff_le, gt_iff_lt, beq_eq_false_iff_ne, Nat.zero_add]; omega)) (Rl.at (by rw [Int.toNat_natCast]; exact eg) (Rl.bind (indexByte_ev _ _) ?_)))
    by_cases c : 0 ≤ idxB bBr x.1
    · have ih' := ih (i + 1) (n + 1) (ls ++ [n]) (by omega) (by rw [List.length_append]; simp; omega) (by omega) (by omega)
      rw [wrap_i64 (x := n + 1) (by omega)]
      have hb : brB x = true := decide_eq_true c
      have e1 : List.take 1 [n] = [n] := rfl
      refine Rl.t (decide_eq_true c) (Rl.t (Nat.le_refl _) (Rl.t (by rw [e1]; simp only [List.length_singleton]; omega) ?_))
      rw [e1, List.take_length]
      rw [List.length_append] at ih'
      rw [brL, if_pos hb, cntB, List.countP_cons_of_pos hb]
      rw [show n + ((List.countP brB (f1.drop (i + 1)) + 1 : Nat) : Int) = n + 1 + ((List.countP brB (f1.drop (i + 1)) : Nat) : Int) by omega]
      rw [List.append_assoc] at ih'
      exact ih'
    · have ih' := ih (i + 1) n (ls ++ [-1]) (by omega) (by rw [List.length_append]; simp; omega) (by omega) (by omega)
      have hb : ¬ brB x = true := fun h => c (of_decide_eq_true h)
      have e1 : List.take 1 [(-1 : Int)] = [-1] := rfl
      refine Rl.f (fun h => c (of_decide_eq_true h)) (Rl.t (Nat.le_refl _) (Rl.t (by omega) ?_))
      rw [e1, List.take_length]
      rw [List.length_append] at ih'
      rw [brL, if_neg hb, cntB, List.countP_cons_of_neg hb]
      rw [List.append_assoc] at ih'
      exact ih'
theorem count_f (f0 : List ByteArray) (f1 : List Dv) (f2 f3 f4 : Int) (h0 : f0.length ≤ 1000000000) (hl : f1.length ≤ 1000000000) : Rn (fun k => Fflat_count k f0 f1 f2 f3 f4) ((f0.length : Int) - 1 + cntB f1, brL ((f0.length : Int) - 1) f1) := by
  have h := count_loop f1 hl f1.length 0 ((f0.length : Int) - 1) [] (by omega) rfl (by omega) (by omega)
  rw [List.drop_zero] at h
  refine Rn.up (f := fun k => Fflat_count k f0 f1 f2 f3 f4) ?_
  show Rn (fun k => bflat_count k f0 f1 f2 f3 f4) _
  unfold bflat_count
  rw [wrap_i64 (x := (f0.length : Int) - 1) (by omega)]
  refine Rn.bind h.diag (Rn.t (by simp [brL_len]) (Rn.const (congrArg some ?_)))
  simp only [List.nil_append]
  rw [List.take_of_length_le (by rw [brL_len]; exact Nat.le_refl _)]
end Go.Proofs.YtlnailgfialgnaaDoor.Am

/- Plain reckoning: what flat.Check says. -/
set_option linter.unusedVariables false
set_option linter.unusedSimpArgs false
set_option maxRecDepth 10000
namespace Go.Proofs.YtlnailgfialgnaaDoor.Am
open Go
/-- A device of no great size. -/
structure GoodD (d : Dv) : Prop where
  kd : 0 ≤ d.1 ∧ d.1 < 256
  nm : d.2.1.size ≤ 1000000000000
  nd : d.2.2.1.length ≤ 1000000000000
  wv : d.2.2.2.2.2.1.2.1.length ≤ 1000000000000
  ws : d.2.2.2.2.2.1.2.2.length ≤ 1000000000000
  mn : d.2.2.2.2.2.2.1.size ≤ 1000000000000
  mg : d.2.2.2.2.2.2.2.2.1.length ≤ 1000000000000
  mv : d.2.2.2.2.2.2.2.2.2.length ≤ 1000000000000
structure Gd (f0 : List ByteArray) (f1 : List Dv) : Prop where
  l0 : f0.length ≤ 1000000000
  l1 : f1.length ≤ 1000000000
  nm : ∀ s ∈ f0, s.size ≤ 1000000000000
  dv : ∀ d ∈ f1, GoodD d
noncomputable def devOk (n : Nat) (f1 : List Dv) (d : Dv) : Bool := okR n f1 d.1 d.2.1 d.2.2.1 d.2.2.2.1 d.2.2.2.2.1.1 d.2.2.2.2.1.2 d.2.2.2.2.2.1.1 d.2.2.2.2.2.1.2.1 d.2.2.2.2.2.1.2.2 d.2.2.2.2.2.2.1 d.2.2.2.2.2.2.2.1 d.2.2.2.2.2.2.2.2.1 d.2.2.2.2.2.2.2.2.2
def b0 : List UInt8 := [48]
noncomputable def chkB (f0 : List ByteArray) (f1 : List Dv) (f2 f3 f4 : Int) : Bool :=
  okN f2 f3 && decide (0 < f2) && decide (f4 = 1 ∨ f4 = 2) && decide (1 ≤ f0.length ∧ f0.length ≤ 32) && decide (f1.length ≤ 64) && decide ((f0.map dl).headD [] = b0) && !twB f0 && f0.all lngB && f1.all (devOk f0.length f1) && !twB (f1.map fun d => d.2.1)
/-- What flat.Check says. -/
noncomputable def chk (f0 : List ByteArray) (f1 : List Dv) (f2 f3 f4 : Int) : Int :=
  if chkB f0 f1 f2 f3 f4 = true then (if (48 : Int) < (f0.length : Int) - 1 + cntB f1 then 5 else 0) else 90
section
variable (f0 : List ByteArray) (f1 : List Dv) (f2 f3 f4 : Int) (g : Gd f0 f1)
include g
theorem check_names : ∃ a, a.1 = (90 : Int) ∧ Rn (fun k => Lflat_Check_0 k k f0 f0.length 0 f0 f1 f2 f3 f4) (if f0.all lngB = true then .inr (f0, f1, f2, f3, f4) else .inl a) := by
  obtain ⟨o, b1, b2⟩ := scan f0.length 0 (fun k q i => Lflat_Check_0 k q f0 f0.length i f0 f1 f2 f3 f4) (f0, f1, f2, f3, f4) (fun a => a = (90, f0, f1, f2, f3, f4)) (fun j => ∀ x, f0[j]? = some x → lngB x = true) (by
      refine Rl.up (f := fun k q => Lflat_Check_0 k q f0 f0.length f0.length f0 f1 f2 f3 f4) ?_
      show Rl (fun k q => Lflat_Check_0s k (Lflat_Check_0 k q) _ _ _ _ _ _ _ _) _
      unfold Lflat_Check_0s
      exact Rl.f (by simp) (Rl.pure _)) (by
      intro i hs hi hok o ho
      refine Rl.up (f := fun k q => Lflat_Check_0 k q f0 f0.length i f0 f1 f2 f3 f4) ?_
      show Rl (fun k q => Lflat_Check_0s k (Lflat_Check_0 k q) _ _ _ _ _ _ _ _) _
      unfold Lflat_Check_0s
      have eg := List.getElem?_eq_getElem hi
      have hx := flong_ev _ (g.nm _ (List.getElem_mem hi))
      rw [hok _ eg] at hx
      have := g.l0
      rw [wrap_i64 (x := (i : Int) + 1) (by omega)]
      exact Rl.t (by first | omega | (simp only [decide_eq_true_eq, decide_eq_false_iff_not, Int.toNat_natCast, beq_iff_eq, bne_iff_ne, ne_eq, Int.not_lt, Int.not_le, ge_iff_le, gt_iff_lt, beq_eq_false_iff_ne, Nat.zero_add]; omega)) (Rl.t (by first | omega | (simp only [decide_eq_true_eq, decide_eq_false_iff_not, Int.toNat_natCast, beq_iff_eq, bne_iff_ne, ne_eq, Int.not_lt, Int.not_le, ge_iff_le, gt_iff_lt, beq_eq_false_iff_ne, Nat.zero_add]; omega)) (Rl.at (by rw [Int.toNat_natCast]; exact eg) (Rl.bind hx (Rl.f (by decide) ho))))) (by
      intro i hs hi hok
      refine ⟨_, rfl, Rl.up (f := fun k q => Lflat_Check_0 k q f0 f0.length i f0 f1 f2 f3 f4) ?_⟩
      show Rl (fun k q => Lflat_Check_0s k (Lflat_Check_0 k q) _ _ _ _ _ _ _ _) _
      unfold Lflat_Check_0s
      have eg := List.getElem?_eq_getElem hi
      have hx := flong_ev _ (g.nm _ (List.getElem_mem hi))
      have hf : lngB (f0[i]'hi) = false := by
        rw [← Bool.not_eq_true]
        exact fun h => hok fun x hx => by rw [eg] at hx; cases hx; exact h
      rw [hf] at hx
      exact Rl.t (by first | omega | (simp only [decide_eq_true_eq, decide_eq_false_iff_not, Int.toNat_natCast, beq_iff_eq, bne_iff_ne, ne_eq, Int.not_lt, Int.not_le, ge_iff_le, gt_iff_lt, beq_eq_false_iff_ne, Nat.zero_add]; omega)) (Rl.t (by first | omega | (simp only [decide_eq_true_eq, decide_eq_false_iff_not, Int.toNat_natCast, beq_iff_eq, bne_iff_ne, ne_eq, Int.not_lt, Int.not_le, ge_iff_le, gt_iff_lt, beq_eq_false_iff_ne, Nat.zero_add]; omega)) (Rl.at (by rw [Int.toNat_natCast]; exact eg) (Rl.bind hx (Rl.t (by decide) (Rl.pure _)))))) f0.length 0 (by omega) (by omega)
  have hall : f0.all lngB = true ↔ ∀ j, 0 ≤ j → j < f0.length → ∀ x, f0[j]? = some x → lngB x = true := by
    rw [List.all_eq_true]
    exact ⟨fun h j _ _ x hx => h x (List.mem_of_getElem? hx), fun h x hx => by
      obtain ⟨j, hj, e⟩ := List.mem_iff_getElem.1 hx
      exact h j (Nat.zero_le _) hj x (by rw [List.getElem?_eq_getElem hj, e])⟩
  refine ⟨(90, f0, f1, f2, f3, f4), rfl, ?_⟩
  rcases b2 with ⟨b2, rfl⟩ | ⟨b2, a, rfl, rfl⟩
  · rw [if_pos (hall.2 b2)]; exact b1.diag
  · rw [if_neg (fun h => b2 (hall.1 h))]; exact b1.diag
theorem dev_right (d : Dv) (hd : d ∈ f1) : Rn (fun k => Fflat_right k f0 f1 f2 f3 f4 d.1 d.2.1 d.2.2.1 d.2.2.2.1 d.2.2.2.2.1.1 d.2.2.2.2.1.2 d.2.2.2.2.2.1.1 d.2.2.2.2.2.1.2.1 d.2.2.2.2.2.1.2.2 d.2.2.2.2.2.2.1 d.2.2.2.2.2.2.2.1 d.2.2.2.2.2.2.2.2.1 d.2.2.2.2.2.2.2.2.2) (devOk f0.length f1 d) := by
  have h := g.dv d hd
  have a1 := h.nm
  have a2 := h.nd
  have a3 := h.wv
  have a4 := h.ws
  have a5 := h.mn
  have a6 := h.mg
  have a7 := h.mv
  exact fright_ev f0 f1 f2 f3 f4 _ _ _ _ _ _ _ _ _ _ _ _ _ a1 (by omega) (by omega) (by omega) (by omega) (by omega) (by omega)
theorem check_devs : ∀ (d i : Nat) (ls : List ByteArray), i + d = f1.length → ls = (f1.take i).map (fun d => d.2.1) →
    ∃ a, a.1 = (90 : Int) ∧ Rl (fun k q => Lflat_Check_2 k q ls.length f1 f1.length (i : Int) f0 f1 f2 f3 f4 ls) (if (f1.drop i).all (devOk f0.length f1) = true then .inr (f1.length, f0, f1, f2, f3, f4, f1.map fun d => d.2.1) else .inl a) := by
  intro d
  induction d with
  | zero =>
    intro i ls e hl
    obtain rfl : i = f1.length := by omega
    rw [List.take_length] at hl
    refine ⟨(90, f0, f1, f2, f3, f4, [], 0, ByteArray.mk #[], [], 0, 0, 0, 0, [], [], ByteArray.mk #[], 0, [], []), rfl, Rl.up (f := fun k q => Lflat_Check_2 k q ls.length f1 f1.length (f1.length : Int) f0 f1 f2 f3 f4 ls) ?_⟩
    show Rl (fun k q => Lflat_Check_2s k (Lflat_Check_2 k q) _ _ _ _ _ _ _ _ _ _) _
    unfold Lflat_Check_2s
    rw [List.drop_length, if_pos (by rfl), hl, List.length_map]
    exact Rl.f (by first | omega | (simp only [decide_eq_true_eq, decide_eq_false_iff_not, Int.toNat_natCast, beq_iff_eq, bne_iff_ne, ne_eq, Int.not_lt, Int.not_le, ge_iff_le, gt_iff_lt, beq_eq_false_iff_ne, Nat.zero_add]; omega)) (Rl.pure _)
  | succ d ih =>
    intro i ls e hl
    have hi : i < f1.length := by omega
    have hm := List.getElem_mem hi
    have eg : f1[i]? = some f1[i] := List.getElem?_eq_getElem hi
    have edr : f1.drop i = f1[i] :: f1.drop (i + 1) := List.drop_eq_getElem_cons hi
    have et : f1.take (i + 1) = f1.take i ++ [f1[i]] := by rw [List.take_add_one, eg]; rfl
    generalize f1[i] = x at eg edr et hm
    have hx := dev_right f0 f1 f2 f3 f4 g x hm
    have hg := g.l1
    have hlen : ls.length = i := by rw [hl, List.length_map, List.length_take]; omega
    rw [edr, List.all_cons]
    cases hb : devOk f0.length f1 x
    · rw [hb] at hx
      refine ⟨(90, f0, f1, f2, f3, f4, ls, x.1, x.2.1, x.2.2.1, x.2.2.2.1, x.2.2.2.2.1.1, x.2.2.2.2.1.2, x.2.2.2.2.2.1.1, x.2.2.2.2.2.1.2.1, x.2.2.2.2.2.1.2.2, x.2.2.2.2.2.2.1, x.2.2.2.2.2.2.2.1, x.2.2.2.2.2.2.2.2.1, x.2.2.2.2.2.2.2.2.2), rfl, Rl.up (f := fun k q => Lflat_Check_2 k q ls.length f1 f1.length (i : Int) f0 f1 f2 f3 f4 ls) ?_⟩
      show Rl (fun k q => Lflat_Check_2s k (Lflat_Check_2 k q) _ _ _ _ _ _ _ _ _ _) _
      unfold Lflat_Check_2s
      rw [Bool.false_and, if_neg (by decide)]
      exact Rl.t (by first | omega | (simp only [decide_eq_true_eq, decide_eq_false_iff_not, Int.toNat_natCast, beq_iff_eq, bne_iff_ne, ne_eq, Int.not_lt, Int.not_le, ge_iff_le, gt_iff_lt, beq_eq_false_iff_ne, Nat.zero_add]; omega)) (Rl.t (by first | omega | (simp only [decide_eq_true_eq, decide_eq_false_iff_not, Int.toNat_natCast, beq_iff_eq, bne_iff_ne, ne_eq, Int.not_lt, Int.not_le, ge_iff_le, gt_iff_lt, beq_eq_false_iff_ne, Nat.zero_add]; omega)) (Rl.at (by rw [Int.toNat_natCast]; exact eg) (Rl.bind hx (Rl.t (by decide) (Rl.pure _)))))
    · rw [hb] at hx
      obtain ⟨a, ha, b⟩ := ih (i + 1) (ls ++ [x.2.1]) (by omega) (by rw [et, List.map_append, ← hl]; rfl)
      refine ⟨a, ha, Rl.up (f := fun k q => Lflat_Check_2 k q ls.length f1 f1.length (i : Int) f0 f1 f2 f3 f4 ls) ?_⟩
      show Rl (fun k q => Lflat_Check_2s k (Lflat_Check_2 k q) _ _ _ _ _ _ _ _ _ _) _
      unfold Lflat_Check_2s
      rw [wrap_i64 (x := (i : Int) + 1) (by omega), Bool.true_and]
      have e1 : List.take 1 [x.2.1] = [x.2.1] := rfl
      refine Rl.t (by first | omega | (simp only [decide_eq_true_eq, decide_eq_false_iff_not, Int.toNat_natCast, beq_iff_eq, bne_iff_ne, ne_eq, Int.not_lt, Int.not_le, ge_iff_le, gt_iff_lt, beq_eq_false_iff_ne, Nat.zero_add]; omega)) (Rl.t (by first | omega | (simp only [decide_eq_true_eq, decide_eq_false_iff_not, Int.toNat_natCast, beq_iff_eq, bne_iff_ne, ne_eq, Int.not_lt, Int.not_le, ge_iff_le, gt_iff_lt, beq_eq_false_iff_ne, Nat.zero_add]; omega)) (Rl.at (by rw [Int.toNat_natCast]; exact eg) (Rl.bind hx (Rl.f (by decide) (Rl.t (Nat.le_refl _) (Rl.t (by rw [e1]; simp only [List.length_singleton]; omega) ?_))))))
      rw [e1, List.take_length]
      rw [List.length_append] at b
      exact b
theorem fcheck_ev : Rn (fun k => Fflat_Check k f0 f1 f2 f3 f4) (chk f0 f1 f2 f3 f4) := by
  refine Rn.up (f := fun k => Fflat_Check k f0 f1 f2 f3 f4) ?_
  show Rn (fun k => bflat_Check k f0 f1 f2 f3 f4) _
  have g0 := g.l0
  have g1 := g.l1
  obtain ⟨a1, a2, K1, h1⟩ := check_names f0 f1 f2 f3 f4 g
  obtain ⟨c1, c2, c3⟩ := check_devs f0 f1 f2 f3 f4 g f1.length 0 [] (by omega) rfl
  obtain ⟨K2, h2⟩ := c3.diag
  obtain ⟨K3, h3⟩ := numValid_ev f2 f3
  obtain ⟨K4, h4⟩ := twiceB_ev f0 (by omega)
  obtain ⟨K5, h5⟩ := twiceB_ev (f1.map fun d => d.2.1) (by rw [List.length_map]; omega)
  obtain ⟨K6, h6⟩ := count_f f0 f1 f2 f3 f4 g0 g1
  refine ⟨K1 + K2 + K3 + K4 + K5 + K6, fun k hk => ?_⟩
  have e1 : Lflat_Check_0 k k f0 f0.length 0 f0 f1 f2 f3 f4 = _ := h1 k (by omega)
  have e2 : Lflat_Check_2 k k 0 f1 f1.length 0 f0 f1 f2 f3 f4 [] = _ := h2 k (by omega)
  have e3 : Fnum_Valid k f2 f3 = _ := h3 k (by omega)
  have e4 : Fflat_twice k f0 = _ := h4 k (by omega)
  have e5 : Fflat_twice k (f1.map fun d => d.2.1) = _ := h5 k (by omega)
  have e6 : Fflat_count k f0 f1 f2 f3 f4 = _ := h6 k (by omega)
  clear h1 h2 h3 h4 h5 h6 hk c3 g
  show bflat_Check k f0 f1 f2 f3 f4 = _
  unfold bflat_Check chk chkB
  rw [e3, Option.bind_some]
  cases hn : okN f2 f3
  · simp
  rw [if_pos (by rfl)]
  by_cases p2 : 0 < f2
  rotate_left
  · rw [if_neg (by simpa using p2)]; simp [p2]
  rw [if_pos (by simpa using p2)]
  by_cases q : f4 = 1 ∨ f4 = 2
  rotate_left
  · rw [if_pos (by simp; omega), if_pos (by simp; omega)]; simp [q]
  rcases q with q | q
  · rw [if_neg (by simp [q])]
    by_cases l1 : 1 ≤ f0.length
    rotate_left
    · rw [if_neg (by rw [decide_eq_false_iff_not]; omega)]; simp [l1]
    rw [if_pos (by rw [decide_eq_false_iff_not]; omega)]
    by_cases l2 : f0.length ≤ 32
    rotate_left
    · rw [if_neg (by rw [decide_eq_false_iff_not]; omega)]; simp [l2]
    rw [if_pos (by rw [decide_eq_false_iff_not]; omega)]
    obtain ⟨x, r, ex⟩ : ∃ x r, f0 = x :: r := by cases f0 with | nil => simp at l1 | cons x r => exact ⟨x, r, rfl⟩
    have ex0 : f0[0]? = some x := by rw [ex]; rfl
    have exh : (f0.map dl).headD [] = dl x := by rw [ex]; rfl
    rw [ex0, Option.bind_some]
    by_cases hz : dl x = b0
    rotate_left
    · rw [if_neg (by simp only [Bool.not_eq_false', beq_iff_eq]; exact hz)]; rw [decide_eq_false (p := (f0.map dl).headD [] = b0) (by rw [exh]; exact hz)]; simp
    rw [if_pos (by simp only [Bool.not_eq_false', beq_iff_eq]; exact hz)]
    by_cases l3 : f1.length ≤ 64
    rotate_left
    · rw [if_neg (by rw [decide_eq_false_iff_not]; omega)]; simp [l3]
    rw [if_pos (by rw [decide_eq_false_iff_not]; omega), e4, Option.bind_some]
    cases ht : twB f0
    rotate_left
    · simp
    rw [if_neg (by decide), e1, Option.bind_some]
    cases hl : f0.all lngB
    · simp [eitherK, a2]
    rw [if_pos rfl]
    show Option.bind (Lflat_Check_2 k k 0 f1 f1.length 0 f0 f1 f2 f3 f4 []) _ = _
    rw [List.drop_zero] at e2
    erw [e2]
    rw [Option.bind_some]
    cases hd : f1.all (devOk f0.length f1)
    · simp [eitherK, c2]
    rw [if_pos rfl]
    show (if 0 + f1.length ≤ (f1.map fun d => d.2.1).length then _ else none) = _
    rw [if_pos (by rw [List.length_map]; omega)]
    show Option.bind (Fflat_twice k (List.take f1.length (f1.map fun d => d.2.1))) _ = _
    rw [List.take_of_length_le (by rw [List.length_map]; omega), e5, Option.bind_some]
    cases hw : twB (f1.map fun d => d.2.1)
    rotate_left
    · simp
    rw [if_neg (by decide)]
    show Option.bind (Fflat_count k f0 f1 f2 f3 f4) _ = _
    rw [e6, Option.bind_some, exh]
    simp only [p2, q, l1, l2, l3, hz, decide_true, Bool.and_true, Bool.not_false, and_self, if_true, true_or, or_true]
    by_cases l4 : (48 : Int) < (f0.length : Int) - 1 + cntB f1
    · rw [if_pos (by rw [decide_eq_true_eq]; exact l4), if_pos l4]
    · rw [if_neg (by rw [decide_eq_true_eq]; exact l4), if_neg l4]
  · rw [if_pos (by simp [q]), if_neg (by simp [q])]
    by_cases l1 : 1 ≤ f0.length
    rotate_left
    · rw [if_neg (by rw [decide_eq_false_iff_not]; omega)]; simp [l1]
    rw [if_pos (by rw [decide_eq_false_iff_not]; omega)]
    by_cases l2 : f0.length ≤ 32
    rotate_left
    · rw [if_neg (by rw [decide_eq_false_iff_not]; omega)]; simp [l2]
    rw [if_pos (by rw [decide_eq_false_iff_not]; omega)]
    obtain ⟨x, r, ex⟩ : ∃ x r, f0 = x :: r := by cases f0 with | nil => simp at l1 | cons x r => exact ⟨x, r, rfl⟩
    have ex0 : f0[0]? = some x := by rw [ex]; rfl
    have exh : (f0.map dl).headD [] = dl x := by rw [ex]; rfl
    rw [ex0, Option.bind_some]
    by_cases hz : dl x = b0
    rotate_left
    · rw [if_neg (by simp only [Bool.not_eq_false', beq_iff_eq]; exact hz)]; rw [decide_eq_false (p := (f0.map dl).headD [] = b0) (by rw [exh]; exact hz)]; simp
    rw [if_pos (by simp only [Bool.not_eq_false', beq_iff_eq]; exact hz)]
    by_cases l3 : f1.length ≤ 64
    rotate_left
    · rw [if_neg (by rw [decide_eq_false_iff_not]; omega)]; simp [l3]
    rw [if_pos (by rw [decide_eq_false_iff_not]; omega), e4, Option.bind_some]
    cases ht : twB f0
    rotate_left
    · simp
    rw [if_neg (by decide), e1, Option.bind_some]
    cases hl : f0.all lngB
    · simp [eitherK, a2]
    rw [if_pos rfl]
    show Option.bind (Lflat_Check_2 k k 0 f1 f1.length 0 f0 f1 f2 f3 f4 []) _ = _
    rw [List.drop_zero] at e2
    erw [e2]
    rw [Option.bind_some]
    cases hd : f1.all (devOk f0.length f1)
    · simp [eitherK, c2]
    rw [if_pos rfl]
    show (if 0 + f1.length ≤ (f1.map fun d => d.2.1).length then _ else none) = _
    rw [if_pos (by rw [List.length_map]; omega)]
    show Option.bind (Fflat_twice k (List.take f1.length (f1.map fun d => d.2.1))) _ = _
    rw [List.take_of_length_le (by rw [List.length_map]; omega), e5, Option.bind_some]
    cases hw : twB (f1.map fun d => d.2.1)
    rotate_left
    · simp
    rw [if_neg (by decide)]
    show Option.bind (Fflat_count k f0 f1 f2 f3 f4) _ = _
    rw [e6, Option.bind_some, exh]
    simp only [p2, q, l1, l2, l3, hz, decide_true, Bool.and_true, Bool.not_false, and_self, if_true, true_or, or_true]
    by_cases l4 : (48 : Int) < (f0.length : Int) - 1 + cntB f1
    · rw [if_pos (by rw [decide_eq_true_eq]; exact l4), if_pos l4]
    · rw [if_neg (by rw [decide_eq_true_eq]; exact l4), if_neg l4]
end
end Go.Proofs.YtlnailgfialgnaaDoor.Am

/- Plain reckoning: more ties, fewer floating nodes, more loops. -/
set_option linter.unusedVariables false
set_option linter.unusedSimpArgs false
set_option maxRecDepth 10000
namespace Go.Proofs.YtlnailgfialgnaaDoor.Am
open Go
def Ref (A B : Nat → Nat) : Prop := ∀ x y, A x = A y → B x = B y
theorem Ref.jn {A B : Nat → Nat} (h : Ref A B) (a b : Nat) : Ref (Am.jn A a b) (Am.jn B a b) := by
  intro x y e
  unfold Am.jn at e ⊢
  by_cases c1 : A x = A a
  · have d1 := h _ _ c1
    rw [if_pos c1] at e
    rw [if_pos d1]
    by_cases c2 : A y = A a
    · rw [if_pos (h _ _ c2)]
    · rw [if_neg c2] at e
      have d2 := h _ _ e
      split <;> simp_all
  · rw [if_neg c1] at e
    by_cases c2 : A y = A a
    · rw [if_pos c2] at e
      have d2 := h _ _ c2
      have d3 := h _ _ e
      rw [if_pos d2]
      split <;> simp_all
    · rw [if_neg c2] at e
      rw [h _ _ e]
theorem Ref.jn1 {A B : Nat → Nat} (h : Ref A B) (a b : Nat) : Ref A (Am.jn B a b) := by
  intro x y e
  unfold Am.jn
  rw [h _ _ e]
theorem Ref.tie {A B : Nat → Nat} (h : Ref A B) {s t : ByteArray} (d : Dv) (hs : 0 ≤ idxB s d.1 → 0 ≤ idxB t d.1) : Ref (Am.tie s A d) (Am.tie t B d) := by
  have key : Ref (if 0 ≤ idxB s d.1 then Am.jn A (nd d 0) (nd d 1) else A) (if 0 ≤ idxB t d.1 then Am.jn B (nd d 0) (nd d 1) else B) := by
    by_cases c1 : 0 ≤ idxB s d.1
    · rw [if_pos c1, if_pos (hs c1)]; exact h.jn _ _
    · rw [if_neg c1]
      split
      · exact h.jn1 _ _
      · exact h
  unfold Am.tie
  split
  · exact key.jn _ _
  · exact key
theorem Ref.ties {s t : ByteArray} (hs : ∀ c, 0 ≤ idxB s c → 0 ≤ idxB t c) : ∀ (l : List Dv) (A B : Nat → Nat), Ref A B → Ref (l.foldl (Am.tie s) A) (l.foldl (Am.tie t) B)
  | [], _, _, h => h
  | d :: l, A, B, h => Ref.ties hs l _ _ (h.tie d (hs _))
end Go.Proofs.YtlnailgfialgnaaDoor.Am

/- Plain reckoning: within; which kinds tie. -/
set_option linter.unusedVariables false
set_option linter.unusedSimpArgs false
set_option maxRecDepth 10000
namespace Go.Proofs.YtlnailgfialgnaaDoor.Am
open Go
theorem idx_mem (c : UInt8) : ∀ l : List UInt8, 0 ≤ Go.Lib.indexByte l c ↔ c ∈ l
  | [] => by simp [Go.Lib.indexByte]
  | b :: l => by
    have ih := idx_mem c l
    have hg := Go.Lib.indexByte_ge l c
    unfold Go.Lib.indexByte
    by_cases e : (b == c) = true
    · rw [if_pos e]
      have : b = c := by simpa using e
      simp [this]
    · rw [if_neg e]
      have hne : ¬ c = b := fun h => e (by simp [h])
      by_cases e2 : (Go.Lib.indexByte l c == -1) = true
      · rw [if_pos e2]
        have e3 : Go.Lib.indexByte l c = -1 := by simpa using e2
        have : ¬ c ∈ l := fun h => by have := ih.2 h; omega
        simp [hne, this]
      · rw [if_neg e2]
        have e3 : ¬ Go.Lib.indexByte l c = -1 := by simpa using e2
        have : c ∈ l := ih.1 (by omega)
        simp only [List.mem_cons, this, or_true, iff_true]
        omega
theorem idxB_mem (s : ByteArray) (c : Int) : 0 ≤ idxB s c ↔ c.toNat.toUInt8 ∈ s.data.toList := idx_mem _ _
def bOp : ByteArray := ByteArray.mk (List.toArray [114, 108, 118, 101, 104, 116, 100, 115])
def bTran : ByteArray := bOp ++ ByteArray.mk (List.toArray [99])
section
variable (b : List Int) (hb : b.length ≤ 1000000000) (sb : b.Pairwise (· < ·))
include hb sb
end
end Go.Proofs.YtlnailgfialgnaaDoor.Am

/- Plain reckoning: topo.Floats and topo.Loops, over what flat.Check says. -/
set_option linter.unusedVariables false
set_option linter.unusedSimpArgs false
set_option maxRecDepth 10000
namespace Go.Proofs.YtlnailgfialgnaaDoor.Am
open Go
/-- What flat.Check's answer c says of a circuit. -/
def Chk (f0 : List ByteArray) (f1 : List Dv) (c : Int) : Prop := c = 0 → 1 ≤ f0.length ∧ f0.length ≤ 1000000000 ∧ f1.length ≤ 1000000000 ∧ ∀ d ∈ f1, OkD f0.length d
section
variable (f0 : List ByteArray) (f1 : List Dv) (f2 f3 f4 c : Int) (hc : Rn (fun k => Fflat_Check k f0 f1 f2 f3 f4) c) (hok : Chk f0 f1 c)
include hc
theorem look_t (mode : Int) (hm : mode = 1 ∨ mode = 2) : Rn (fun k => Ftopo_look k f0 f1 f2 f3 f4 mode) c := by
  refine Rn.up (f := fun k => Ftopo_look k f0 f1 f2 f3 f4 mode) ?_
  show Rn (fun k => btopo_look k f0 f1 f2 f3 f4 mode) _
  unfold btopo_look
  refine Rn.bind hc ?_
  by_cases h : c = 0
  · subst h
    rcases hm with rfl | rfl
    · exact Rn.f (by decide) (Rn.f (by decide) (Rn.pure _))
    · exact Rn.f (by decide) (Rn.t (by decide) (Rn.f (by decide) (Rn.pure _)))
  · exact Rn.t (by simp [h]) (Rn.pure _)
def flR (first : ByteArray) (f1 : List Dv) : Nat → Nat := f1.foldl (tie first) id
include hok
theorem floats_ev (mode : Int) (hm : mode = 1 ∨ mode = 2) : ∃ l : List Int, Rn (fun k => Ftopo_Floats k f0 f1 f2 f3 f4 mode) (l.length, c, l) ∧ l = if c = 0 then flo (flR (if mode = 2 then bTran else bOp) f1) f0.length else [] := by
  refine ⟨_, Rn.up (f := fun k => Ftopo_Floats k f0 f1 f2 f3 f4 mode) ?_, rfl⟩
  show Rn (fun k => btopo_Floats k f0 f1 f2 f3 f4 mode) _
  unfold btopo_Floats
  refine Rn.bind (look_t f0 f1 f2 f3 f4 c hc mode hm) ?_
  by_cases h : c = 0
  · rw [if_pos h]
    obtain ⟨k1, k2, k3, k4⟩ := hok h
    obtain ⟨s0, u0, v0⟩ := newSets_ev f0.length k2
    refine Rn.f (by simp [h]) (Rn.bind v0 ?_)
    by_cases m2 : mode = 2
    · rw [if_pos m2]
      obtain ⟨s1, dp1, u1, v1⟩ := floats0 k2 bTran f0 f1 f2 f3 f4 k3 k4 f1.length 0 s0 id _ u0 (by omega)
      obtain ⟨s2, v2⟩ := floats2 k2 f0.length 0 s1 u1 (by omega)
      rw [h]
      exact Rn.t (by simp [m2]) (Rn.bind v1.diag (Rn.bind v2.diag (Rn.pure _)))
    · rw [if_neg m2]
      obtain ⟨s1, dp1, u1, v1⟩ := floats0 k2 bOp f0 f1 f2 f3 f4 k3 k4 f1.length 0 s0 id _ u0 (by omega)
      obtain ⟨s2, v2⟩ := floats2 k2 f0.length 0 s1 u1 (by omega)
      rw [h]
      exact Rn.f (by simp [m2]) (Rn.bind v1.diag (Rn.bind v2.diag (Rn.pure _)))
  · rw [if_neg h]
    exact Rn.t (by simp [h]) (Rn.pure _)
theorem loops_ev (mode : Int) (hm : mode = 1 ∨ mode = 2) : ∃ l : List Int, Rn (fun k => Ftopo_Loops k f0 f1 f2 f3 f4 mode) (l.length, c, l) ∧ l = if c = 0 then lps mode f1 0 id else [] := by
  refine ⟨_, Rn.up (f := fun k => Ftopo_Loops k f0 f1 f2 f3 f4 mode) ?_, rfl⟩
  show Rn (fun k => btopo_Loops k f0 f1 f2 f3 f4 mode) _
  unfold btopo_Loops
  refine Rn.bind (look_t f0 f1 f2 f3 f4 c hc mode hm) ?_
  by_cases h : c = 0
  · rw [if_pos h]
    obtain ⟨k1, k2, k3, k4⟩ := hok h
    obtain ⟨s0, u0, v0⟩ := newSets_ev f0.length k2
    obtain ⟨s1, v1⟩ := loops0 k2 mode f1 k3 k4 f1.length 0 s0 id _ [] u0 (by omega) (by simp)
    rw [h]
    exact Rn.f (by simp) (Rn.bind v0 (Rn.bind v1.diag (Rn.pure _)))
  · rw [if_neg h]
    exact Rn.t (by simp [h]) (Rn.pure _)
end
end Go.Proofs.YtlnailgfialgnaaDoor.Am

/- Plain reckoning: what a right circuit's devices keep to; sizes out of the law's premise. -/
set_option linter.unusedVariables false
set_option linter.unusedSimpArgs false
set_option maxRecDepth 10000
namespace Go.Proofs.YtlnailgfialgnaaDoor.Am
open Go
theorem toU8 {c : Int} (h : 0 ≤ c ∧ c < 256) (n : Nat) (hn : n < 256) : c.toNat.toUInt8 = n.toUInt8 ↔ c = n := by
  constructor
  · intro e
    have := congrArg UInt8.toNat e
    rw [Nat.toUInt8_eq, Nat.toUInt8_eq, UInt8.toNat_ofNat', UInt8.toNat_ofNat'] at this
    rw [Nat.mod_eq_of_lt (by omega), Nat.mod_eq_of_lt (by omega)] at this
    omega
  · rintro rfl; rfl
theorem okd_of {n : Nat} {f1 : List Dv} {d : Dv} (g : GoodD d) (h : devOk n f1 d = true) : OkD n d := by
  unfold devOk okR at h
  simp only [Bool.and_eq_true, decide_eq_true_eq] at h
  obtain ⟨⟨⟨⟨h1, h2⟩, h3⟩, h4⟩, h5⟩ := h
  have hk : kindN d.1 = 2 ∨ kindN d.1 = 4 := by
    unfold kindN at h1 ⊢
    repeat' split
    all_goals first | omega | (exfalso; revert h1; simp_all)
  have h4' := (all_getD (l := d.2.2.1)).1 h4
  refine ⟨fun i hi => ?_, by omega, fun he => ?_⟩
  · have := h4' i (by omega) hi
    rwa [decide_eq_true_eq] at this
  · have hm := (idxB_mem _ _).1 he
    have hk4 : kindN d.1 = 4 := by
      have e : d.1 = 101 ∨ d.1 = 103 ∨ d.1 = 116 := by
        change d.1.toNat.toUInt8 ∈ [(101 : UInt8), 103, 116] at hm
        simp only [List.mem_cons, List.not_mem_nil, or_false] at hm
        rcases hm with hm | hm | hm
        · exact .inl ((toU8 g.kd 101 (by omega)).1 hm)
        · exact .inr (.inl ((toU8 g.kd 103 (by omega)).1 hm))
        · exact .inr (.inr ((toU8 g.kd 116 (by omega)).1 hm))
      rcases e with e | e | e <;> rw [e] <;> rfl
    omega
theorem chk_zero {f0 : List ByteArray} {f1 : List Dv} {f2 f3 f4 : Int} (h : chk f0 f1 f2 f3 f4 = 0) : chkB f0 f1 f2 f3 f4 = true := by
  unfold chk at h
  split at h
  · assumption
  · omega
theorem chk_Chk {f0 : List ByteArray} {f1 : List Dv} {f2 f3 f4 : Int} (g : Gd f0 f1) : Chk f0 f1 (chk f0 f1 f2 f3 f4) := by
  intro h
  have h := chk_zero h
  unfold chkB at h
  simp only [Bool.and_eq_true, decide_eq_true_eq] at h
  have hd := List.all_eq_true.1 h.1.2
  have hl := h.1.1.1.1.1.1.2
  exact ⟨hl.1, by omega, g.l1, fun d hd' => okd_of (g.dv d hd') (hd d hd')⟩
abbrev cNumC : Cd := .pr (.int .i64) (.int .i64)
abbrev cDevC : Cd := .pr (.int .u8) (.pr .str (.pr (.sl (.int .i64)) (.pr (.int .i64) (.pr cNumC (.pr (.pr (.int .i64) (.pr (.sl cNumC) (.sl (.int .i64)))) (.pr .str (.pr (.int .u8) (.pr (.sl cNumC) (.sl cNumC)))))))))
abbrev cFlatC : Cd := .pr (.sl .str) (.pr (.sl cDevC) (.pr cNumC (.int .i64)))
theorem gd_of {x : cFlatC.D} (w : WfdR 8589934592 cFlatC x) : Gd x.1 x.2.1 := by
  obtain ⟨⟨⟨_, w0⟩, w1⟩, ⟨⟨_, w2⟩, w3⟩, _⟩ := w
  simp only [Cd.by] at w0 w2
  refine ⟨by omega, by omega, fun s hs => ?_, fun d hd => ?_⟩
  · have := (w1 s hs).2
    omega
  · obtain ⟨k0, ⟨_, k1⟩, ⟨⟨_, k2⟩, _⟩, _, _, ⟨_, ⟨⟨_, k3⟩, _⟩, ⟨_, k4⟩, _⟩, ⟨_, k5⟩, _, ⟨⟨_, k6⟩, _⟩, ⟨_, k7⟩, _⟩ := w3 d hd
    simp only [Cd.by] at k2 k3 k4 k6 k7
    simp only [WfdR, Lit.wf, IntKind.min, IntKind.max, IntKind.signed, IntKind.bits] at k0
    refine ⟨?_, by omega, by omega, by omega, by omega, by omega, by omega, by omega⟩
    simp at k0
    omega
end Go.Proofs.YtlnailgfialgnaaDoor.Am

/- Plain reckoning: the ties in another order. -/
set_option linter.unusedVariables false
set_option linter.unusedSimpArgs false
set_option maxRecDepth 10000
namespace Go.Proofs.YtlnailgfialgnaaDoor.Am
open Go
def J (rt : Nat → Nat) (p : Nat × Nat) : Nat → Nat := jn rt p.1 p.2
theorem Ref.rfl' (A : Nat → Nat) : Ref A A := fun _ _ e => e
theorem Ref.trans' {A B C : Nat → Nat} (h : Ref A B) (k : Ref B C) : Ref A C := fun x y e => k x y (h x y e)
theorem swap_nat (A B C D X Y : Nat)
    (e : (if (if X = A then B else X) = (if C = A then B else C) then (if D = A then B else D) else (if X = A then B else X)) = (if (if Y = A then B else Y) = (if C = A then B else C) then (if D = A then B else D) else (if Y = A then B else Y))) :
    (if (if X = C then D else X) = (if A = C then D else A) then (if B = C then D else B) else (if X = C then D else X)) = (if (if Y = C then D else Y) = (if A = C then D else A) then (if B = C then D else B) else (if Y = C then D else Y)) := by
  grind
theorem Ref.swap (rt : Nat → Nat) (p q : Nat × Nat) : Ref (J (J rt p) q) (J (J rt q) p) := by
  intro x y e
  unfold Am.J Am.jn at e ⊢
  exact swap_nat _ _ _ _ _ _ e
theorem Ref.J {A B : Nat → Nat} (h : Ref A B) (p : Nat × Nat) : Ref (Am.J A p) (Am.J B p) := h.jn _ _
theorem Ref.folds : ∀ (l : List (Nat × Nat)) {A B : Nat → Nat}, Ref A B → Ref (l.foldl Am.J A) (l.foldl Am.J B)
  | [], _, _, h => h
  | p :: l, _, _, h => Ref.folds l (h.J p)
theorem Ref.perm {l m : List (Nat × Nat)} (hp : l.Perm m) : ∀ {A B : Nat → Nat}, Ref A B → Ref (l.foldl Am.J A) (m.foldl Am.J B) := by
  induction hp with
  | nil => exact fun h => h
  | cons p _ ih => exact fun h => ih (h.J p)
  | swap p q l => exact fun h => Ref.folds l (((h.J q).J p).trans' (Ref.swap _ _ _))
  | trans _ _ ih1 ih2 => exact fun h => (ih1 h).trans' (ih2 (Ref.rfl' _))
/-- How many ties join what is joined. -/
def fails : List (Nat × Nat) → (Nat → Nat) → Nat
  | [], _ => 0
  | p :: l, rt => (if rt p.1 = rt p.2 then 1 else 0) + fails l (J rt p)
theorem fails_congr : ∀ (l : List (Nat × Nat)) {A B : Nat → Nat}, Ref A B → Ref B A → fails l A = fails l B
  | [], _, _, _, _ => rfl
  | p :: l, A, B, h, k => by
    rw [fails, fails, fails_congr l (h.J p) (k.J p)]
    by_cases c : A p.1 = A p.2
    · rw [if_pos c, if_pos (h _ _ c)]
    · rw [if_neg c, if_neg fun e => c (k _ _ e)]
theorem swap_cnt (A B C D : Nat) : (if A = B then 1 else 0) + (if (if C = A then B else C) = (if D = A then B else D) then 1 else 0) = (if C = D then 1 else 0) + (if (if A = C then D else A) = (if B = C then D else B) then 1 else (0 : Nat)) := by
  grind
theorem fails_perm {l m : List (Nat × Nat)} (hp : l.Perm m) : ∀ {A B : Nat → Nat}, Ref A B → Ref B A → fails l A = fails m B := by
  induction hp with
  | nil => exact fun _ _ => rfl
  | cons p _ ih =>
    intro A B h k
    rw [fails, fails, ih (h.J p) (k.J p)]
    by_cases c : A p.1 = A p.2
    · rw [if_pos c, if_pos (h _ _ c)]
    · rw [if_neg c, if_neg fun e => c (k _ _ e)]
  | swap p q l =>
    intro A B h k
    rw [fails_congr (q :: p :: l) h k]
    simp only [fails]
    rw [fails_congr l (Ref.swap B q p) (Ref.swap B p q), ← Nat.add_assoc, ← Nat.add_assoc]
    congr 1
    unfold J jn
    exact swap_cnt _ _ _ _
  | trans _ _ ih1 ih2 => exact fun h k => (ih1 h k).trans (ih2 (Ref.rfl' _) (Ref.rfl' _))
/-- A device's ties. -/
def edg (first : ByteArray) (d : Dv) : List (Nat × Nat) := (if 0 ≤ idxB first d.1 then [(nd d 0, nd d 1)] else []) ++ (if 0 ≤ idxB bEgt d.1 then [(nd d 2, nd d 3)] else [])
theorem tie_edg (first : ByteArray) (rt : Nat → Nat) (d : Dv) : tie first rt d = (edg first d).foldl J rt := by
  unfold tie edg
  by_cases c1 : 0 ≤ idxB first d.1 <;> by_cases c2 : 0 ≤ idxB bEgt d.1 <;> simp [c1, c2, J]
theorem ties_edg (first : ByteArray) : ∀ (l : List Dv) (rt : Nat → Nat), l.foldl (tie first) rt = (l.flatMap (edg first)).foldl J rt
  | [], _ => rfl
  | d :: l, rt => by rw [List.foldl_cons, ties_edg first l, List.flatMap_cons, List.foldl_append, tie_edg]
def lkE (mode : Int) (d : Dv) : List (Nat × Nat) := if LK mode d then [(nd d 0, nd d 1)] else []
theorem lps_fails (mode : Int) : ∀ (l : List Dv) (i : Nat) (rt : Nat → Nat), (lps mode l i rt).length = fails (l.flatMap (lkE mode)) rt
  | [], _, _ => rfl
  | d :: l, i, rt => by
    have ih := fun rt => lps_fails mode l (i + 1) rt
    rw [lps, List.flatMap_cons]
    by_cases c : LK mode d
    · rw [if_pos c, lkE, if_pos c, List.singleton_append, fails]
      split
      · rename_i h
        rw [List.length_cons, ih, Nat.add_comm]; rfl
      · rename_i h
        rw [ih, Nat.zero_add]; rfl
    · rw [if_neg c, lkE, if_neg c, ih]; rfl
theorem flo_congr {A B : Nat → Nat} (h : Ref A B) (k : Ref B A) : ∀ n, flo A n = flo B n
  | 0 => rfl
  | n + 1 => by
    rw [flo, flo, flo_congr h k n]
    by_cases c : A n = A 0
    · rw [if_pos c, if_pos (h _ _ c)]
    · rw [if_neg c, if_neg fun e => c (k _ _ e)]
/-- Devices whose kinds and nodes are the same, in another order. -/
def Alike (l m : List Dv) : Prop := (l.map fun d => (d.1, d.2.2.1)).Perm (m.map fun d => (d.1, d.2.2.1))
theorem Alike.flat {l m : List Dv} (h : Alike l m) {β : Type} (f : Dv → List β) (g : Int × List Int → List β) (hg : ∀ d, f d = g (d.1, d.2.2.1)) : (l.flatMap f).Perm (m.flatMap f) := by
  have e : ∀ l : List Dv, l.flatMap f = (l.map fun d => (d.1, d.2.2.1)).flatMap g := fun l => by
    rw [List.flatMap_map]
    congr 1
    funext d
    exact hg d
  rw [e, e]
  exact h.flatMap_right _
theorem Alike.symm {l m : List Dv} (h : Alike l m) : Alike m l := List.Perm.symm h
theorem Alike.flo {l m : List Dv} (h : Alike l m) (first : ByteArray) (n : Nat) : Am.flo (l.foldl (tie first) id) n = Am.flo (m.foldl (tie first) id) n := by
  have key : ∀ {l m : List Dv}, Alike l m → Ref (l.foldl (tie first) id) (m.foldl (tie first) id) := by
    intro l m h
    rw [ties_edg, ties_edg]
    refine Ref.perm (h.flat (edg first) (fun p => (if 0 ≤ idxB first p.1 then [((p.2.getD 0 0).toNat, (p.2.getD 1 0).toNat)] else []) ++ (if 0 ≤ idxB bEgt p.1 then [((p.2.getD 2 0).toNat, (p.2.getD 3 0).toNat)] else [])) (fun d => rfl)) (Ref.rfl' _)
  exact flo_congr (key h) (key h.symm) n
theorem Alike.lps {l m : List Dv} (h : Alike l m) (mode : Int) : (Am.lps mode l 0 id).length = (Am.lps mode m 0 id).length := by
  rw [lps_fails, lps_fails]
  refine fails_perm (h.flat (lkE mode) (fun p => if p.1 = 118 ∨ p.1 = 108 ∧ mode = 1 then [((p.2.getD 0 0).toNat, (p.2.getD 1 0).toNat)] else []) (fun d => ?_)) (Ref.rfl' _) (Ref.rfl' _)
  unfold lkE LK nd
  rfl
end Go.Proofs.YtlnailgfialgnaaDoor.Am

/- Plain reckoning: copies; lists of numbers that are the same; looks in any mode. -/
set_option linter.unusedVariables false
set_option linter.unusedSimpArgs false
set_option maxRecDepth 10000
namespace Go.Proofs.YtlnailgfialgnaaDoor.Am
open Go
section
variable (f0 : List ByteArray) (f1 : List Dv) (f2 f3 f4 : Int) (g : Gd f0 f1)
include g
theorem copy_step (k : Nat) (rec : Int → List ByteArray → List Dv → Int → Int → Int → Nat → Nat → Int → Int → Int → Nat → Nat → Int → Int → Int → List ByteArray → List Dv → List ByteArray → List Dv → Option (List ByteArray × List Dv × Int × Int × Int × Nat × Nat × Int × Int × Int × Nat × Nat × Int × Int × Int × List ByteArray × List Dv × List ByteArray × List Dv))
    (i : Nat) (hi : i < f1.length) (x0 x1 : Nat) (x2 x3 x4 : Int) (o0 : Nat) (o2 o3 o4 : Int) (m : List ByteArray) (m1 : List Dv) (m2 : List ByteArray) (ls : List Dv) (hl : ls.length = i) :
    Lshuntref09_Copy_0s k rec (i : Int) f0 f1 f2 f3 f4 x0 x1 x2 x3 x4 o0 ls.length o2 o3 o4 m m1 m2 ls = rec ((i + 1 : Nat) : Int) f0 f1 f2 f3 f4 x0 x1 x2 x3 x4 o0 (ls ++ [f1[i]]).length o2 o3 o4 m m1 m2 (ls ++ [f1[i]]) := by
  have eg : f1[i]? = some f1[i] := List.getElem?_eq_getElem hi
  have hg := g.dv _ (List.getElem_mem hi)
  have hl1 := g.l1
  generalize f1[i] = x at eg hg
  have a2 := hg.nd
  have a3 := hg.wv
  have a4 := hg.ws
  have a6 := hg.mg
  have a7 := hg.mv
  have w1 : IntKind.i64.wrap ((i : Int) + 1) = ((i + 1 : Nat) : Int) := by rw [wrap_i64 (by omega)]; omega
  unfold Lshuntref09_Copy_0s
  rw [if_pos (by rw [decide_eq_true_eq]; omega), if_pos (by omega), Int.toNat_natCast, eg, Option.bind_some]
  simp only [List.take_zero, List.nil_append, Nat.zero_add, List.take_length, w1, List.take_succ_cons, List.length_append, List.length_singleton]
  rw [if_pos (by omega), if_pos (by omega), if_pos (by omega), if_pos (by omega), if_pos (by omega), if_pos (Nat.le_refl _), if_pos (Nat.le_refl _), if_pos (Nat.le_refl _), if_pos (Nat.le_refl _), if_pos (Nat.le_refl _), if_pos (Nat.le_refl _), if_pos (by omega)]
theorem copy_loop : ∀ (d i : Nat) (x0 x1 : Nat) (x2 x3 x4 : Int) (o0 : Nat) (o2 o3 o4 : Int) (m : List ByteArray) (m1 : List Dv) (m2 : List ByteArray) (ls : List Dv), i + d = f1.length → ls = f1.take i →
    Rl (fun k q => Lshuntref09_Copy_0 k q (i : Int) f0 f1 f2 f3 f4 x0 x1 x2 x3 x4 o0 ls.length o2 o3 o4 m m1 m2 ls) (f0, f1, f2, f3, f4, x0, x1, x2, x3, x4, o0, f1.length, o2, o3, o4, m, m1, m2, f1) := by
  intro d
  induction d with
  | zero =>
    intro i x0 x1 x2 x3 x4 o0 o2 o3 o4 m m1 m2 ls e hl
    obtain rfl : i = f1.length := by omega
    rw [List.take_length] at hl
    subst hl
    refine Rl.up (f := fun k q => Lshuntref09_Copy_0 k q (ls.length : Int) f0 ls f2 f3 f4 x0 x1 x2 x3 x4 o0 ls.length o2 o3 o4 m m1 m2 ls) ?_
    show Rl (fun k q => Lshuntref09_Copy_0s k (Lshuntref09_Copy_0 k q) _ _ _ _ _ _ _ _ _ _ _ _ _ _ _ _ _ _ _ _) _
    unfold Lshuntref09_Copy_0s
    exact Rl.f (by simp) (Rl.pure _)
  | succ d ih =>
    intro i x0 x1 x2 x3 x4 o0 o2 o3 o4 m m1 m2 ls e hl
    have hi : i < f1.length := by omega
    have hlen : ls.length = i := by rw [hl, List.length_take]; omega
    refine Rl.up (f := fun k q => Lshuntref09_Copy_0 k q (i : Int) f0 f1 f2 f3 f4 x0 x1 x2 x3 x4 o0 ls.length o2 o3 o4 m m1 m2 ls) ?_
    show Rl (fun k q => Lshuntref09_Copy_0s k (Lshuntref09_Copy_0 k q) _ _ _ _ _ _ _ _ _ _ _ _ _ _ _ _ _ _ _ _) _
    simp only [copy_step f0 f1 f2 f3 f4 g _ _ i hi _ _ _ _ _ _ _ _ _ _ _ _ ls hlen]
    exact ih (i + 1) x0 x1 x2 x3 x4 o0 o2 o3 o4 m m1 m2 _ (by omega) (by rw [List.take_add_one, List.getElem?_eq_getElem hi, hl]; rfl)
theorem copy_ev : Rn (fun k => Fshuntref09_Copy k f0 f1 f2 f3 f4) (f0.length, f1.length, f2, f3, f4, f0, f1) := by
  refine Rn.up (f := fun k => Fshuntref09_Copy k f0 f1 f2 f3 f4) ?_
  show Rn (fun k => bshuntref09_Copy k f0 f1 f2 f3 f4) _
  unfold bshuntref09_Copy
  have h0 := g.l0
  have h := copy_loop f0 f1 f2 f3 f4 g f1.length 0 0 0 0 0 0 (0 + f0.length) f2 f3 f4 [] [] ((List.take 0 []) ++ f0) [] (by omega) rfl
  refine Rn.t (by omega) (Rn.bind h.diag (Rn.const (congrArg some ?_)))
  simp only [List.take_zero, List.nil_append, Nat.zero_add]
end
theorem ints_ev (a b : List Int) (ha : a.length ≤ 1000000000000000000) : Rn (fun k => Fshuntref09_Ints k a b) (decide (a = b)) := by
  refine Rn.up (f := fun k => Fshuntref09_Ints k a b) ?_
  show Rn (fun k => bshuntref09_Ints k a b) _
  unfold bshuntref09_Ints
  by_cases hl : a.length = b.length
  rotate_left
  · refine Rn.t (by rw [bne_iff_ne]; omega) (Rn.const (congrArg some (decide_eq_false fun e => hl (by rw [e])).symm))
  refine Rn.f (by rw [bne_iff_ne]; omega) ?_
  obtain ⟨o, b1, b2⟩ := scan a.length 0 (fun k q i => Lshuntref09_Ints_0 k q a b i) () (fun x => x = false) (fun j => a[j]? = b[j]?) (by
      refine Rl.up (f := fun k q => Lshuntref09_Ints_0 k q a b a.length) ?_
      show Rl (fun k q => Lshuntref09_Ints_0s k (Lshuntref09_Ints_0 k q) _ _ _) _
      unfold Lshuntref09_Ints_0s
      exact Rl.f (by simp) (Rl.pure _)) (by
      intro i hs hi hok o ho
      refine Rl.up (f := fun k q => Lshuntref09_Ints_0 k q a b i) ?_
      show Rl (fun k q => Lshuntref09_Ints_0s k (Lshuntref09_Ints_0 k q) _ _ _) _
      unfold Lshuntref09_Ints_0s
      rw [wrap_i64 (x := (i : Int) + 1) (by omega)]
      have ea := List.getElem?_eq_getElem hi
      have eb := hok
      rw [ea] at eb
      exact Rl.t (by first | omega | (simp only [decide_eq_true_eq, decide_eq_false_iff_not, Int.toNat_natCast, beq_iff_eq, bne_iff_ne, ne_eq, Int.not_lt, Int.not_le, ge_iff_le, gt_iff_lt, beq_eq_false_iff_ne, Nat.zero_add]; omega)) (Rl.t (by first | omega | (simp only [decide_eq_true_eq, decide_eq_false_iff_not, Int.toNat_natCast, beq_iff_eq, bne_iff_ne, ne_eq, Int.not_lt, Int.not_le, ge_iff_le, gt_iff_lt, beq_eq_false_iff_ne, Nat.zero_add]; omega)) (Rl.at (by rw [Int.toNat_natCast]; exact ea) (Rl.t (by first | omega | (simp only [decide_eq_true_eq, decide_eq_false_iff_not, Int.toNat_natCast, beq_iff_eq, bne_iff_ne, ne_eq, Int.not_lt, Int.not_le, ge_iff_le, gt_iff_lt, beq_eq_false_iff_ne, Nat.zero_add]; omega)) (Rl.at (by rw [Int.toNat_natCast]; exact eb.symm) (Rl.f (by simp) ho)))))) (by
      intro i hs hi hok
      refine ⟨false, rfl, Rl.up (f := fun k q => Lshuntref09_Ints_0 k q a b i) ?_⟩
      show Rl (fun k q => Lshuntref09_Ints_0s k (Lshuntref09_Ints_0 k q) _ _ _) _
      unfold Lshuntref09_Ints_0s
      have ea := List.getElem?_eq_getElem hi
      have eb := List.getElem?_eq_getElem (show i < b.length by omega)
      exact Rl.t (by first | omega | (simp only [decide_eq_true_eq, decide_eq_false_iff_not, Int.toNat_natCast, beq_iff_eq, bne_iff_ne, ne_eq, Int.not_lt, Int.not_le, ge_iff_le, gt_iff_lt, beq_eq_false_iff_ne, Nat.zero_add]; omega)) (Rl.t (by first | omega | (simp only [decide_eq_true_eq, decide_eq_false_iff_not, Int.toNat_natCast, beq_iff_eq, bne_iff_ne, ne_eq, Int.not_lt, Int.not_le, ge_iff_le, gt_iff_lt, beq_eq_false_iff_ne, Nat.zero_add]; omega)) (Rl.at (by rw [Int.toNat_natCast]; exact ea) (Rl.t (by first | omega | (simp only [decide_eq_true_eq, decide_eq_false_iff_not, Int.toNat_natCast, beq_iff_eq, bne_iff_ne, ne_eq, Int.not_lt, Int.not_le, ge_iff_le, gt_iff_lt, beq_eq_false_iff_ne, Nat.zero_add]; omega)) (Rl.at (by rw [Int.toNat_natCast]; exact eb) (Rl.t (by rw [bne_iff_ne]; intro e; exact hok (by rw [ea, eb, e])) (Rl.pure _))))))) a.length 0 (by omega) (by omega)
  refine Rn.bind b1.diag ?_
  rcases b2 with ⟨b2, rfl⟩ | ⟨b2, x, rfl, rfl⟩
  · rw [decide_eq_true (List.ext_getElem? fun j => by
      rcases Nat.lt_or_ge j a.length with h | h
      · exact b2 j (Nat.zero_le _) h
      · rw [List.getElem?_eq_none h, List.getElem?_eq_none (by omega)])]
    exact Rn.pure _
  · rw [decide_eq_false (fun e => b2 fun j _ _ => by rw [e])]
    exact Rn.pure _
/-- What a look is refused for. -/
def lookE (c mode : Int) : Int := if c ≠ 0 then c else if mode = 1 ∨ mode = 2 then 0 else 110
theorem lookE_ne {c mode : Int} (h : c ≠ 0) : lookE c mode = c := if_pos h
theorem lookE_in {c mode : Int} (h : c = 0) (m : mode = 1 ∨ mode = 2) : lookE c mode = 0 := by unfold lookE; rw [if_neg (by omega), if_pos m]
theorem lookE_out {c mode : Int} (h : c = 0) (m : ¬ (mode = 1 ∨ mode = 2)) : lookE c mode = 110 := by unfold lookE; rw [if_neg (by omega), if_neg m]
theorem lookE_zero {c mode : Int} (h : lookE c mode = 0) : c = 0 ∧ (mode = 1 ∨ mode = 2) := by
  by_cases hc : c = 0
  · by_cases m : mode = 1 ∨ mode = 2
    · exact ⟨hc, m⟩
    · rw [lookE_out hc m] at h; omega
  · rw [lookE_ne hc] at h; exact absurd h hc
def floL (f0 : List ByteArray) (f1 : List Dv) (c mode : Int) : List Int := if lookE c mode = 0 then flo (flR (if mode = 2 then bTran else bOp) f1) f0.length else []
def lpsL (f1 : List Dv) (c mode : Int) : List Int := if lookE c mode = 0 then lps mode f1 0 id else []
section
variable (f0 : List ByteArray) (f1 : List Dv) (f2 f3 f4 c : Int) (hc : Rn (fun k => Fflat_Check k f0 f1 f2 f3 f4) c) (hok : Chk f0 f1 c)
include hc
theorem look_any (mode : Int) : Rn (fun k => Ftopo_look k f0 f1 f2 f3 f4 mode) (lookE c mode) := by
  refine Rn.up (f := fun k => Ftopo_look k f0 f1 f2 f3 f4 mode) ?_
  show Rn (fun k => btopo_look k f0 f1 f2 f3 f4 mode) _
  unfold btopo_look
  refine Rn.bind hc ?_
  by_cases h : c = 0
  · refine Rn.f (by simp [h]) ?_
    by_cases m1 : mode = 1
    · rw [lookE_in h (.inl m1)]
      exact Rn.f (by simp [m1]) (Rn.pure _)
    · by_cases m2 : mode = 2
      · rw [lookE_in h (.inr m2)]
        exact Rn.t (by simp [m1]) (Rn.f (by simp [m2]) (Rn.pure _))
      · rw [lookE_out h (by omega)]
        exact Rn.t (by simp [m1]) (Rn.t (by simp [m2]) (Rn.pure _))
  · rw [lookE_ne h]
    exact Rn.t (by simp [h]) (Rn.pure _)
include hok
theorem floats_any (mode : Int) : Rn (fun k => Ftopo_Floats k f0 f1 f2 f3 f4 mode) ((floL f0 f1 c mode).length, lookE c mode, floL f0 f1 c mode) := by
  by_cases h : lookE c mode = 0
  · have hm := lookE_zero h
    obtain ⟨l, h1, h2⟩ := floats_ev f0 f1 f2 f3 f4 c hc hok mode hm.2
    rw [if_pos hm.1] at h2
    have e : floL f0 f1 c mode = l := by unfold floL; rw [if_pos h, h2]
    rw [e, h]
    rw [hm.1] at h1
    exact h1
  · have e : floL f0 f1 c mode = [] := if_neg h
    rw [e]
    refine Rn.up (f := fun k => Ftopo_Floats k f0 f1 f2 f3 f4 mode) ?_
    show Rn (fun k => btopo_Floats k f0 f1 f2 f3 f4 mode) _
    unfold btopo_Floats
    exact Rn.bind (look_any f0 f1 f2 f3 f4 c hc mode) (Rn.t (by simp [h]) (Rn.pure _))
theorem loops_any (mode : Int) : Rn (fun k => Ftopo_Loops k f0 f1 f2 f3 f4 mode) ((lpsL f1 c mode).length, lookE c mode, lpsL f1 c mode) := by
  by_cases h : lookE c mode = 0
  · have hm := lookE_zero h
    obtain ⟨l, h1, h2⟩ := loops_ev f0 f1 f2 f3 f4 c hc hok mode hm.2
    rw [if_pos hm.1] at h2
    have e : lpsL f1 c mode = l := by unfold lpsL; rw [if_pos h, h2]
    rw [e, h]
    rw [hm.1] at h1
    exact h1
  · have e : lpsL f1 c mode = [] := if_neg h
    rw [e]
    refine Rn.up (f := fun k => Ftopo_Loops k f0 f1 f2 f3 f4 mode) ?_
    show Rn (fun k => btopo_Loops k f0 f1 f2 f3 f4 mode) _
    unfold btopo_Loops
    exact Rn.bind (look_any f0 f1 f2 f3 f4 c hc mode) (Rn.t (by simp [h]) (Rn.pure _))
end
end Go.Proofs.YtlnailgfialgnaaDoor.Am

/- The fixed fact that every law of layer 20 asks first. -/
set_option linter.unusedVariables false
set_option linter.unusedSimpArgs false
set_option maxRecDepth 10000
namespace Go.Proofs.YtlnailgfialgnaaDoor.Am
open Go
theorem fix20 {α : Type} {f : Nat → Option α} {x : α} (h : ∀ j, f (j + 40) = some x) : Rn f x := Rn.eq 40 fun k hk => by
  obtain ⟨j, rfl⟩ : ∃ j, k = j + 40 := ⟨k - 40, by omega⟩
  exact h j
end Go.Proofs.YtlnailgfialgnaaDoor.Am

/- Plain reckoning: layer 10's fixed fact, and that bulky answers. -/
set_option linter.unusedVariables false
set_option linter.unusedSimpArgs false
set_option maxRecDepth 10000
namespace Go.Proofs.YtlnailgfialgnaaDoor.Am
open Go
theorem awake10_ev : Rn (fun k => Fshuntlaw10_awake k) true := fix20 fun j => by kernel_rfl
theorem bulky_loop (f0 : List ByteArray) (f1 : List Dv) (f2 f3 f4 : Int) (hl : f1.length ≤ 1000000000000000000) : ∀ (d i : Nat) (n : Int), i + d = f1.length → ∃ o, Rl (fun k q => Lshuntlaw10_bulky_0 k q n (i : Int) f0 f1 f2 f3 f4) o := by
  intro d
  induction d with
  | zero =>
    intro i n e
    refine ⟨_, Rl.up (f := fun k q => Lshuntlaw10_bulky_0 k q n (i : Int) f0 f1 f2 f3 f4) (r := (n, f0, f1, f2, f3, f4)) ?_⟩
    show Rl (fun k q => Lshuntlaw10_bulky_0s k (Lshuntlaw10_bulky_0 k q) _ _ _ _ _ _ _) _
    unfold Lshuntlaw10_bulky_0s
    exact Rl.f (by first | omega | (simp only [decide_eq_true_eq, decide_eq_false_iff_not, Int.toNat_natCast, beq_iff_eq, bne_iff_ne, ne_eq, Int.not_lt, Int.not_le, ge_iff_le, gt_iff_lt, beq_eq_false_iff_ne, Nat.zero_add]; omega)) (Rl.pure _)
  | succ d ih =>
    intro i n e
    have hi : i < f1.length := by omega
    have eg : f1[i]? = some f1[i] := List.getElem?_eq_getElem hi
    generalize f1[i] = x at eg
    by_cases c : n < 2000
    · obtain ⟨o, ho⟩ := ih (i + 1) (IntKind.wrap .i64 (n + (IntKind.wrap .i64 ((IntKind.wrap .i64 ((IntKind.wrap .i64 ((IntKind.wrap .i64 ((IntKind.wrap .i64 ((1 : Int) + (min (2000 : Int) (((List.length x.2.2.1) : Nat) : Int)))) + (min (2000 : Int) (((List.length x.2.2.2.2.2.1.2.1) : Nat) : Int)))) + (min (2000 : Int) (((List.length x.2.2.2.2.2.1.2.2) : Nat) : Int)))) + (min (2000 : Int) (((List.length x.2.2.2.2.2.2.2.2.1) : Nat) : Int)))) + (min (2000 : Int) (((List.length x.2.2.2.2.2.2.2.2.2) : Nat) : Int)))))) (by omega)
      refine ⟨o, Rl.up (f := fun k q => Lshuntlaw10_bulky_0 k q n (i : Int) f0 f1 f2 f3 f4) ?_⟩
      show Rl (fun k q => Lshuntlaw10_bulky_0s k (Lshuntlaw10_bulky_0 k q) _ _ _ _ _ _ _) _
      unfold Lshuntlaw10_bulky_0s
      rw [wrap_i64 (x := (i : Int) + 1) (by omega)]
      exact Rl.t (by first | omega | (simp only [decide_eq_true_eq, decide_eq_false_iff_not, Int.toNat_natCast, beq_iff_eq, bne_iff_ne, ne_eq, Int.not_lt, Int.not_le, ge_iff_le, gt_iff_lt, beq_eq_false_iff_ne, Nat.zero_add]; omega)) (Rl.t (by first | omega | (simp only [decide_eq_true_eq, decide_eq_false_iff_not, Int.toNat_natCast, beq_iff_eq, bne_iff_ne, ne_eq, Int.not_lt, Int.not_le, ge_iff_le, gt_iff_lt, beq_eq_false_iff_ne, Nat.zero_add]; omega)) (Rl.t (by first | omega | (simp only [decide_eq_true_eq, decide_eq_false_iff_not, Int.toNat_natCast, beq_iff_eq, bne_iff_ne, ne_eq, Int.not_lt, Int.not_le, ge_iff_le, gt_iff_lt, beq_eq_false_iff_ne, Nat.zero_add]; omega)) (Rl.at (by rw [Int.toNat_natCast]; exact eg) ho)))
    · refine ⟨_, Rl.up (f := fun k q => Lshuntlaw10_bulky_0 k q n (i : Int) f0 f1 f2 f3 f4) (r := (n, f0, f1, f2, f3, f4)) ?_⟩
      show Rl (fun k q => Lshuntlaw10_bulky_0s k (Lshuntlaw10_bulky_0 k q) _ _ _ _ _ _ _) _
      unfold Lshuntlaw10_bulky_0s
      exact Rl.t (by first | omega | (simp only [decide_eq_true_eq, decide_eq_false_iff_not, Int.toNat_natCast, beq_iff_eq, bne_iff_ne, ne_eq, Int.not_lt, Int.not_le, ge_iff_le, gt_iff_lt, beq_eq_false_iff_ne, Nat.zero_add]; omega)) (Rl.f (by first | omega | (simp only [decide_eq_true_eq, decide_eq_false_iff_not, Int.toNat_natCast, beq_iff_eq, bne_iff_ne, ne_eq, Int.not_lt, Int.not_le, ge_iff_le, gt_iff_lt, beq_eq_false_iff_ne, Nat.zero_add]; omega)) (Rl.pure _))
theorem bulky_ev (f0 : List ByteArray) (f1 : List Dv) (f2 f3 f4 : Int) (hl : f1.length ≤ 1000000000000000000) : ∃ b, Rn (fun k => Fshuntlaw10_bulky k f0 f1 f2 f3 f4) b := by
  obtain ⟨o, ho⟩ := bulky_loop f0 f1 f2 f3 f4 hl f1.length 0 f0.length (by omega)
  refine ⟨_, Rn.up (f := fun k => Fshuntlaw10_bulky k f0 f1 f2 f3 f4) (r := decide (o.1 ≥ 2000)) ?_⟩
  show Rn (fun k => bshuntlaw10_bulky k f0 f1 f2 f3 f4) _
  unfold bshuntlaw10_bulky
  exact Rn.bind ho.diag (Rn.pure _)
end Go.Proofs.YtlnailgfialgnaaDoor.Am

/- The law TopoOrder, plain: the devices turned about. -/
set_option linter.unusedVariables false
set_option linter.unusedSimpArgs false
set_option maxRecDepth 10000
namespace Go.Proofs.YtlnailgfialgnaaDoor.Am
open Go
def fh (d : Dv) : Prop := d.1 = 102 ∨ d.1 = 104
instance (d : Dv) : Decidable (fh d) := by unfold fh; infer_instance
/-- A device whose Ref is turned about. -/
def trn (n : Nat) (d : Dv) : Dv := if fh d then (d.1, d.2.1, d.2.2.1, (n : Int) - 1 - d.2.2.2.1, d.2.2.2.2) else d
def trns (l : List Dv) : List Dv := l.reverse.map (trn l.length)
theorem trns_len (l : List Dv) : (trns l).length = l.length := by simp [trns]
theorem trn_key (n : Nat) (d : Dv) : (trn n d).1 = d.1 ∧ (trn n d).2.1 = d.2.1 ∧ (trn n d).2.2.1 = d.2.2.1 ∧ (trn n d).2.2.2.2 = d.2.2.2.2 := by
  unfold trn; split <;> exact ⟨rfl, rfl, rfl, rfl⟩
theorem trns_at (l : List Dv) (i : Nat) (h : i < l.length) : (trns l)[i]? = some (trn l.length (l[l.length - 1 - i]'(by omega))) := by
  unfold trns
  rw [List.getElem?_map, List.getElem?_reverse h, List.getElem?_eq_getElem (by omega)]
  rfl
theorem trns_alike (l : List Dv) : Alike l (trns l) := by
  unfold Alike trns
  rw [List.map_map]
  have : ((fun d : Dv => (d.1, d.2.2.1)) ∘ trn l.length) = fun d : Dv => (d.1, d.2.2.1) := by
    funext d
    have h := trn_key l.length d
    simp only [Function.comp_apply, h.1, h.2.2.1]
  rw [this, List.map_reverse]
  exact (List.reverse_perm _).symm
def inR (l : List Dv) : Prop := ∀ d ∈ l, fh d → 0 ≤ d.2.2.2.1 ∧ d.2.2.2.1 < l.length
theorem trn_good (n : Nat) {d : Dv} (g : GoodD d) : GoodD (trn n d) := by
  have h := trn_key n d
  exact ⟨by rw [h.1]; exact g.kd, by rw [h.2.1]; exact g.nm, by rw [h.2.2.1]; exact g.nd, by rw [h.2.2.2]; exact g.wv, by rw [h.2.2.2]; exact g.ws, by rw [h.2.2.2]; exact g.mn, by rw [h.2.2.2]; exact g.mg, by rw [h.2.2.2]; exact g.mv⟩
theorem trns_gd {f0 : List ByteArray} {l : List Dv} (g : Gd f0 l) : Gd f0 (trns l) := by
  refine ⟨g.l0, by rw [trns_len]; exact g.l1, g.nm, fun d hd => ?_⟩
  unfold trns at hd
  obtain ⟨x, hx, rfl⟩ := List.mem_map.1 hd
  exact trn_good _ (g.dv x (List.mem_reverse.1 hx))
theorem refV_trn {l : List Dv} (r : Int) (h : 0 ≤ r ∧ r < l.length) : refV (trns l) ((l.length : Int) - 1 - r) = refV l r := by
  unfold refV
  obtain ⟨j, rfl⟩ := Int.eq_ofNat_of_zero_le h.1
  have hj : j < l.length := by omega
  rw [trns_len, show ((l.length : Int) - 1 - (j : Int)).toNat = l.length - 1 - j by omega, trns_at l _ (by omega), Int.toNat_natCast, List.getElem?_eq_getElem hj]
  simp only [show l.length - 1 - (l.length - 1 - j) = j by omega, (trn_key l.length _).1]
  rw [decide_eq_true (p := 0 ≤ (l.length : Int) - 1 - (j : Int) ∧ (l.length : Int) - 1 - (j : Int) < l.length) (by omega), decide_eq_true (p := 0 ≤ (j : Int) ∧ (j : Int) < l.length) (by omega)]
theorem devOk_trn (n : Nat) {l : List Dv} (hr : inR l) (d : Dv) (hd : d ∈ l) : devOk n (trns l) (trn l.length d) = devOk n l d := by
  have h := trn_key l.length d
  unfold devOk okR
  rw [h.1, h.2.1, h.2.2.1, h.2.2.2]
  by_cases c : fh d
  · have e : (trn l.length d).2.2.2.1 = (l.length : Int) - 1 - d.2.2.2.1 := by unfold trn; rw [if_pos c]
    have n1 : ¬ (d.1 = 118 ∨ d.1 = 105) := by unfold fh at c; omega
    have n2 : ¬ (d.1 = 100 ∨ d.1 = 115) := by unfold fh at c; omega
    rw [e, if_neg n1, if_neg n2, if_pos (show d.1 = 102 ∨ d.1 = 104 from c), refV_trn _ (hr d hd c), if_neg n1, if_neg n2, if_pos (show d.1 = 102 ∨ d.1 = 104 from c)]
  · have e : trn l.length d = d := by unfold trn; rw [if_neg c]
    rw [e, if_neg (show ¬ (d.1 = 102 ∨ d.1 = 104) from c), if_neg (show ¬ (d.1 = 102 ∨ d.1 = 104) from c)]
theorem chk_trn (f0 : List ByteArray) {l : List Dv} (hr : inR l) (f2 f3 f4 : Int) : chk f0 (trns l) f2 f3 f4 = chk f0 l f2 f3 f4 := by
  have e1 : (trns l).all (devOk f0.length (trns l)) = l.all (devOk f0.length l) := by
    rw [Bool.eq_iff_iff, List.all_eq_true, List.all_eq_true]
    unfold trns
    constructor
    · intro h d hd
      have := h _ (List.mem_map_of_mem (List.mem_reverse.2 hd))
      rw [← devOk_trn f0.length hr d hd]
      exact this
    · intro h y hy
      obtain ⟨x, hx, rfl⟩ := List.mem_map.1 hy
      have hx := List.mem_reverse.1 hx
      exact (devOk_trn f0.length hr x hx).trans (h x hx)
  have e2 : twB ((trns l).map fun d => d.2.1) = twB (l.map fun d => d.2.1) := by
    unfold twB trns
    rw [List.map_map, List.map_map, List.map_map, List.map_reverse]
    have : ((dl ∘ fun d : Dv => d.2.1) ∘ trn l.length) = (dl ∘ fun d : Dv => d.2.1) := by
      funext d
      simp only [Function.comp_apply, (trn_key l.length d).2.1]
    rw [this]
    congr 1
    exact decide_eq_decide.2 (List.reverse_perm _).nodup_iff
  have e3 : cntB (trns l) = cntB l := by
    unfold cntB trns
    rw [List.countP_map, List.countP_reverse]
    congr 1
    funext d
    unfold brB
    simp only [Function.comp_apply, (trn_key l.length d).1]
  unfold chk chkB
  rw [e1, e2, e3, trns_len]
section
variable (f0 : List ByteArray) (f1 : List Dv) (f2 f3 f4 : Int) (g : Gd f0 f1)
include g
theorem order_loop (mode : Int) (g0 g1 : Nat) (g2 g3 g4 : Int) (m : List ByteArray) (hg1 : g1 = f1.length) : ∀ (d i : Nat) (m1 : List Dv), i + d = f1.length → m1.length = f1.length → (∀ j, j < i → m1[j]? = (trns f1)[j]?) → (∀ d ∈ f1.drop (f1.length - i), fh d → 0 ≤ d.2.2.2.1 ∧ d.2.2.2.1 < f1.length) →
    ∃ o, Rl (fun k q => Lshuntlaw10_TopoOrder_0 k q mode f1.length (g1 : Int) (i : Int) f0 f1 f2 f3 f4 g0 g1 g2 g3 g4 m m1) o ∧
      (o = .inr (mode, f0, f1, f2, f3, f4, g0, g1, g2, g3, g4, m, trns f1) ∧ inR f1 ∨ ∃ a, a.1 = true ∧ o = .inl a) := by
  have hl1 := g.l1
  intro d
  induction d with
  | zero =>
    intro i m1 e hm hj hr
    obtain rfl : i = f1.length := by omega
    have em : m1 = trns f1 := List.ext_getElem? fun j => by
      rcases Nat.lt_or_ge j f1.length with h | h
      · exact hj j h
      · rw [List.getElem?_eq_none (by omega), List.getElem?_eq_none (by rw [trns_len]; exact h)]
    subst em
    refine ⟨_, Rl.up (f := fun k q => Lshuntlaw10_TopoOrder_0 k q mode f1.length (g1 : Int) (f1.length : Int) f0 f1 f2 f3 f4 g0 g1 g2 g3 g4 m (trns f1)) ?_, .inl ⟨rfl, fun d hd => hr d (by rw [Nat.sub_self]; exact hd)⟩⟩
    show Rl (fun k q => Lshuntlaw10_TopoOrder_0s k (Lshuntlaw10_TopoOrder_0 k q) _ _ _ _ _ _ _ _ _ _ _ _ _ _ _ _) _
    unfold Lshuntlaw10_TopoOrder_0s
    exact Rl.f (by rw [decide_eq_true_eq]; omega) (Rl.pure _)
  | succ d ih =>
    intro i m1 e hm hj hr
    have hi : i < f1.length := by omega
    have hi2 : f1.length - 1 - i < f1.length := by omega
    have eg : f1[f1.length - 1 - i]? = some f1[f1.length - 1 - i] := List.getElem?_eq_getElem hi2
    have et := trns_at f1 i hi
    have edr : f1.drop (f1.length - (i + 1)) = f1[f1.length - 1 - i] :: f1.drop (f1.length - i) := by
      rw [show f1.length - (i + 1) = f1.length - 1 - i by omega, List.drop_eq_getElem_cons hi2, show f1.length - 1 - i + 1 = f1.length - i by omega]
    generalize f1[f1.length - 1 - i] = x at eg et edr
    have hcp := copy_ev f0 f1 f2 f3 f4 g
    have w1 : IntKind.i64.wrap (IntKind.i64.wrap ((f1.length : Int) - 1) - (i : Int)) = ((f1.length - 1 - i : Nat) : Int) := by rw [wrap_i64 (x := (f1.length : Int) - 1) (by omega), wrap_i64 (by omega)]; omega
    have w2 : IntKind.i64.wrap ((i : Int) + 1) = ((i + 1 : Nat) : Int) := by rw [wrap_i64 (by omega)]; omega
    have em : m1[i]? = some (m1[i]'(by omega)) := List.getElem?_eq_getElem (by omega)
    have next : ∀ y : Dv, y = trn f1.length x → (fh x → 0 ≤ x.2.2.2.1 ∧ x.2.2.2.1 < f1.length) → ∃ o, Rl (fun k q => Lshuntlaw10_TopoOrder_0 k q mode f1.length (g1 : Int) ((i + 1 : Nat) : Int) f0 f1 f2 f3 f4 g0 g1 g2 g3 g4 m (m1.set i y)) o ∧
      (o = .inr (mode, f0, f1, f2, f3, f4, g0, g1, g2, g3, g4, m, trns f1) ∧ inR f1 ∨ ∃ a, a.1 = true ∧ o = .inl a) := by
      intro y hy hx
      refine ih (i + 1) (m1.set i y) (by omega) (by rw [List.length_set]; exact hm) (fun j hj2 => ?_) (fun d hd => ?_)
      · by_cases c : i = j
        · subst c
          rw [List.getElem?_set_self (by omega), et, hy]
        · rw [List.getElem?_set_ne c]
          exact hj j (by omega)
      · rw [edr] at hd
        rcases List.mem_cons.1 hd with rfl | hd
        · exact hx
        · exact hr d hd
    by_cases c : fh x
    · by_cases r1 : x.2.2.2.1 < 0
      · refine ⟨_, Rl.up (f := fun k q => Lshuntlaw10_TopoOrder_0 k q mode f1.length (g1 : Int) (i : Int) f0 f1 f2 f3 f4 g0 g1 g2 g3 g4 m m1) ?_, .inr ⟨(true, f0, f1, f2, f3, f4, g0, g1, g2, g3, g4, m, m1, f0, f1, x.1, x.2.1, x.2.2.1, x.2.2.2.1, x.2.2.2.2.1.1, x.2.2.2.2.1.2, x.2.2.2.2.2.1.1, x.2.2.2.2.2.1.2.1, x.2.2.2.2.2.1.2.2, x.2.2.2.2.2.2.1, x.2.2.2.2.2.2.2.1, x.2.2.2.2.2.2.2.2.1, x.2.2.2.2.2.2.2.2.2), rfl, rfl⟩⟩
        show Rl (fun k q => Lshuntlaw10_TopoOrder_0s k (Lshuntlaw10_TopoOrder_0 k q) _ _ _ _ _ _ _ _ _ _ _ _ _ _ _ _) _
        unfold Lshuntlaw10_TopoOrder_0s
        rw [w1]
        refine Rl.t (by rw [decide_eq_true_eq]; omega) (Rl.bind hcp (Rl.t (by show _ ∧ ((f1.length - 1 - i : Nat) : Int) < ((f1.length : Nat) : Int); omega) (Rl.at (by rw [Int.toNat_natCast, Nat.zero_add]; exact eg) ?_)))
        rcases c with c | c
        · exact Rl.f (by simp [c]) (Rl.f (by simpa using r1) (Rl.pure _))
        · exact Rl.t (by simp [c]) (Rl.t (by simp [c]) (Rl.f (by simpa using r1) (Rl.pure _)))
      by_cases r2 : x.2.2.2.1 ≥ (f1.length : Int)
      · refine ⟨_, Rl.up (f := fun k q => Lshuntlaw10_TopoOrder_0 k q mode f1.length (g1 : Int) (i : Int) f0 f1 f2 f3 f4 g0 g1 g2 g3 g4 m m1) ?_, .inr ⟨(true, f0, f1, f2, f3, f4, g0, g1, g2, g3, g4, m, m1, f0, f1, x.1, x.2.1, x.2.2.1, x.2.2.2.1, x.2.2.2.2.1.1, x.2.2.2.2.1.2, x.2.2.2.2.2.1.1, x.2.2.2.2.2.1.2.1, x.2.2.2.2.2.1.2.2, x.2.2.2.2.2.2.1, x.2.2.2.2.2.2.2.1, x.2.2.2.2.2.2.2.2.1, x.2.2.2.2.2.2.2.2.2), rfl, rfl⟩⟩
        show Rl (fun k q => Lshuntlaw10_TopoOrder_0s k (Lshuntlaw10_TopoOrder_0 k q) _ _ _ _ _ _ _ _ _ _ _ _ _ _ _ _) _
        unfold Lshuntlaw10_TopoOrder_0s
        rw [w1]
        refine Rl.t (by rw [decide_eq_true_eq]; omega) (Rl.bind hcp (Rl.t (by show _ ∧ ((f1.length - 1 - i : Nat) : Int) < ((f1.length : Nat) : Int); omega) (Rl.at (by rw [Int.toNat_natCast, Nat.zero_add]; exact eg) ?_)))
        rcases c with c | c
        · exact Rl.f (by simp [c]) (Rl.t (by simpa using r1) (Rl.t (by simpa using r2) (Rl.pure _)))
        · exact Rl.t (by simp [c]) (Rl.t (by simp [c]) (Rl.t (by simpa using r1) (Rl.t (by simpa using r2) (Rl.pure _))))
      · have w3 : IntKind.i64.wrap (IntKind.i64.wrap ((f1.length : Int) - 1) - x.2.2.2.1) = (f1.length : Int) - 1 - x.2.2.2.1 := by rw [wrap_i64 (x := (f1.length : Int) - 1) (by omega), wrap_i64 (by omega)]
        obtain ⟨o, h1, h2⟩ := next (x.1, x.2.1, x.2.2.1, (f1.length : Int) - 1 - x.2.2.2.1, x.2.2.2.2) (by unfold trn; rw [if_pos c]) (fun _ => by omega)
        refine ⟨o, Rl.up (f := fun k q => Lshuntlaw10_TopoOrder_0 k q mode f1.length (g1 : Int) (i : Int) f0 f1 f2 f3 f4 g0 g1 g2 g3 g4 m m1) ?_, h2⟩
        show Rl (fun k q => Lshuntlaw10_TopoOrder_0s k (Lshuntlaw10_TopoOrder_0 k q) _ _ _ _ _ _ _ _ _ _ _ _ _ _ _ _) _
        unfold Lshuntlaw10_TopoOrder_0s
        rw [w1, w2]
        refine Rl.t (by rw [decide_eq_true_eq]; omega) (Rl.bind hcp (Rl.t (by show _ ∧ ((f1.length - 1 - i : Nat) : Int) < ((f1.length : Nat) : Int); omega) (Rl.at (by rw [Int.toNat_natCast, Nat.zero_add]; exact eg) ?_)))
        have fin : Rl (fun k q => if 0 ≤ (i : Int) ∧ (i : Int) < ((g1 : Nat) : Int) then Option.bind m1[0 + (i : Int).toNat]? (fun x3 => Lshuntlaw10_TopoOrder_0 k q mode f1.length (g1 : Int) ((i + 1 : Nat) : Int) f0 f1 f2 f3 f4 g0 g1 g2 g3 g4 m (m1.set (0 + (i : Int).toNat) (x.1, x.2.1, x.2.2.1, IntKind.i64.wrap (IntKind.i64.wrap ((f1.length : Int) - 1) - x.2.2.2.1), x.2.2.2.2))) else none) o := by
          rw [w3, Int.toNat_natCast, Nat.zero_add]
          exact Rl.t (by omega) (Rl.at em h1)
        rcases c with c | c
        · exact Rl.f (by simp [c]) (Rl.t (by simpa using r1) (Rl.f (by simpa using r2) fin))
        · exact Rl.t (by simp [c]) (Rl.t (by simp [c]) (Rl.t (by simpa using r1) (Rl.f (by simpa using r2) fin)))
    · obtain ⟨o, h1, h2⟩ := next x (by unfold trn; rw [if_neg c]) (fun h => absurd h c)
      refine ⟨o, Rl.up (f := fun k q => Lshuntlaw10_TopoOrder_0 k q mode f1.length (g1 : Int) (i : Int) f0 f1 f2 f3 f4 g0 g1 g2 g3 g4 m m1) ?_, h2⟩
      show Rl (fun k q => Lshuntlaw10_TopoOrder_0s k (Lshuntlaw10_TopoOrder_0 k q) _ _ _ _ _ _ _ _ _ _ _ _ _ _ _ _) _
      unfold Lshuntlaw10_TopoOrder_0s
      rw [w1, w2]
      refine Rl.t (by rw [decide_eq_true_eq]; omega) (Rl.bind hcp (Rl.t (by show _ ∧ ((f1.length - 1 - i : Nat) : Int) < ((f1.length : Nat) : Int); omega) (Rl.at (by rw [Int.toNat_natCast, Nat.zero_add]; exact eg) ?_)))
      refine Rl.t (by unfold fh at c; simp; omega) (Rl.f (by unfold fh at c; simp; omega) (Rl.t (by omega) (Rl.at (by rw [Int.toNat_natCast, Nat.zero_add]; exact em) ?_)))
      rw [Int.toNat_natCast, Nat.zero_add]
      exact h1
theorem order_ev (mode : Int) : Rn (fun k => Fshuntlaw10_TopoOrder k f0 f1 f2 f3 f4 mode) true := by
  have hl1 := g.l1
  have hl0 := g.l0
  refine Rn.up (f := fun k => Fshuntlaw10_TopoOrder k f0 f1 f2 f3 f4 mode) ?_
  show Rn (fun k => bshuntlaw10_TopoOrder k f0 f1 f2 f3 f4 mode) _
  unfold bshuntlaw10_TopoOrder
  obtain ⟨b, hb⟩ := bulky_ev f0 f1 f2 f3 f4 (by omega)
  refine Rn.bind awake10_ev (Rn.f (by decide) (Rn.bind hb ?_))
  cases b with
  | true => exact Rn.t rfl (Rn.pure _)
  | false =>
    refine Rn.f (by decide) (Rn.bind (copy_ev f0 f1 f2 f3 f4 g) ?_)
    obtain ⟨o, h1, h2⟩ := order_loop f0 f1 f2 f3 f4 g mode f0.length f1.length f2 f3 f4 f0 rfl f1.length 0 f1 (by omega) rfl (fun j hj => absurd hj (by omega)) (fun d hd => by rw [List.drop_eq_nil_of_le (by omega)] at hd; cases hd)
    refine Rn.bind h1.diag ?_
    rcases h2 with ⟨rfl, hr⟩ | ⟨a, ha, rfl⟩
    rotate_left
    · show Rn (fun k => some a.1) true
      rw [ha]; exact Rn.pure _
    have g' := trns_gd g
    have hc := fcheck_ev f0 f1 f2 f3 f4 g
    have hc' := fcheck_ev f0 (trns f1) f2 f3 f4 g'
    rw [chk_trn f0 hr] at hc'
    have hk := chk_Chk g (f2 := f2) (f3 := f3) (f4 := f4)
    have hk' := chk_Chk g' (f2 := f2) (f3 := f3) (f4 := f4)
    rw [chk_trn f0 hr] at hk'
    generalize chk f0 f1 f2 f3 f4 = c at hc hc' hk hk'
    have a1 := floats_any f0 f1 f2 f3 f4 c hc hk mode
    have a2 := floats_any f0 (trns f1) f2 f3 f4 c hc' hk' mode
    have a3 := loops_any f0 f1 f2 f3 f4 c hc hk mode
    have a4 := loops_any f0 (trns f1) f2 f3 f4 c hc' hk' mode
    have eL : floL f0 (trns f1) c mode = floL f0 f1 c mode := by
      unfold floL flR
      rw [(trns_alike f1).flo]
    have eM : (lpsL (trns f1) c mode).length = (lpsL f1 c mode).length := by
      unfold lpsL
      split
      · exact ((trns_alike f1).lps mode).symm
      · rfl
    rw [eL] at a2
    show Rn (fun k => Option.bind (Ftopo_Floats k f0 f1 f2 f3 f4 mode) _) _
    refine Rn.bind a1 ?_
    show Rn (fun k => if (0 + f0.length) ≤ f0.length then _ else none) _
    refine Rn.t (by omega) ?_
    show Rn (fun k => if (0 + f1.length) ≤ (trns f1).length then _ else none) _
    refine Rn.t (by rw [trns_len]; omega) ?_
    have t0 : List.take f0.length f0 = f0 := List.take_length
    have t1 : List.take f1.length (trns f1) = trns f1 := by rw [← trns_len]; exact List.take_length
    show Rn (fun k => Option.bind (Ftopo_Floats k (List.take f0.length f0) (List.take f1.length (trns f1)) f2 f3 f4 mode) _) _
    rw [t0, t1]
    refine Rn.bind a2 (Rn.bind a3 ?_)
    show Rn (fun k => if (0 + f0.length) ≤ f0.length then _ else none) _
    refine Rn.t (by omega) ?_
    show Rn (fun k => if (0 + f1.length) ≤ (trns f1).length then _ else none) _
    refine Rn.t (by rw [trns_len]; omega) ?_
    refine Rn.bind a4 (Rn.t (by simp) (Rn.t (by simp) (Rn.t (by simp) (Rn.t (by simp) (Rn.t (by simp) ?_)))))
    simp only [List.take_length]
    have hlen : (floL f0 f1 c mode).length ≤ 1000000000000000000 := by
      unfold floL
      split
      · have := flo_len (flR (if mode = 2 then bTran else bOp) f1) f0.length; omega
      · simp
    have hi := ints_ev (floL f0 f1 c mode) (floL f0 f1 c mode) hlen
    rw [decide_eq_true rfl] at hi
    refine Rn.bind hi (Rn.t rfl (Rn.const (congrArg some ?_)))
    rw [beq_iff_eq]
    omega
end
theorem pure_TopoOrder (x : cFlatC.D) (mode : Int) (w : WfdR 8589934592 cFlatC x) (wm : WfdR 8589934592 (.int .i64) mode) : ∃ k, Fshuntlaw10_TopoOrder k x.1 x.2.1 x.2.2.1.1 x.2.2.1.2 x.2.2.2 mode = some true := by
  obtain ⟨K, h⟩ := order_ev x.1 x.2.1 x.2.2.1.1 x.2.2.1.2 x.2.2.2 (gd_of w) mode
  exact ⟨K, h K (Nat.le_refl _)⟩
end Go.Proofs.YtlnailgfialgnaaDoor.Am

/- The law TopoOrderUpto returns true for every input, and its arguments read as they did. -/
namespace Go.Proofs.YtlnailgfialgnaaDoor.topoOrderUpto
open Go.ChangeShapes Go.WideShapes Go.ChangeAt Go.RowKit
open Go.Proofs.YtlnailgfialgnaaDoor.Am
set_option linter.unusedVariables false
theorem own : ownKnob Tryd.prog.godebug = none := by kernel_rfl
theorem laidOut : laidOutB Tryd.prog = true := by kernel_rfl
theorem reads (os : Os) {H : Type} (enc : TypeId × Value → H) : ∃ places, DataW.whole enc Tryd.prog ((World.laidAll Tryd.prog os Rows.topoOrderUptoRow.laid).forCall (fun _ _ => 0) ⟨#[], #[.agg #[.slice none 0 0, .slice none 0 0, .int .i64 0, .int .i64 0, .int .i64 0], .int .i64 0], []⟩).memory Tryd.f3.params.toList Rows.topoOrderSpec.vars false (#[.agg #[.slice none 0 0, .slice none 0 0, .int .i64 0, .int .i64 0, .int .i64 0], .int .i64 0] : Array Value).toList 8 = some ([.agg [.nil, .nil, .agg [.lit (.int .i64 0), .lit (.int .i64 0)], .lit (.int .i64 0)], .lit (.int .i64 0)], [], places) :=
  ⟨[], by kernel_rfl⟩
theorem laid_met (os : Os) : laidMet Tryd.prog Rows.topoOrderUptoRow.laid ((World.laidAll Tryd.prog os Rows.topoOrderUptoRow.laid).forCall (fun _ _ => 0) ⟨#[], #[.agg #[.slice none 0 0, .slice none 0 0, .int .i64 0, .int .i64 0, .int .i64 0], .int .i64 0], []⟩).memory :=
  laidMet_of_run' 8 (by kernel_rfl) (by kernel_rfl)
set_option maxRecDepth 100000 in
theorem lifted (os : Os) (started : os.Started) (H : Type) (enc : TypeId × Value → H) (F : Stop.Interp) :
    ReturnsInHanded {} Tryd.checked os 3 .any ((Rows.OpenSpec.upto Rows.topoOrderSpec).preRow enc Tryd.prog Tryd.f3 Rows.topoOrderUptoRow.domain false Rows.topoOrderUptoRow.laid) (((Rows.OpenSpec.upto Rows.topoOrderSpec).at F).post enc Tryd.prog Tryd.f3 false true false false) := by
  obtain ⟨places, hx⟩ := reads os enc
  refine returnsInHanded_of_row (C := Tryd.checked) (s := Rows.OpenSpec.upto Rows.topoOrderSpec) own started (by kernel_rfl) Tryd.func3
    (witness_row_at (enc := enc) (C := Tryd.checked) false (World.laidAll Tryd.prog os Rows.topoOrderUptoRow.laid) #[.agg #[.slice none 0 0, .slice none 0 0, .int .i64 0, .int .i64 0, .int .i64 0], .int .i64 0] (World.laidAll_os _ _ _) (by kernel_rfl) (by kernel_rfl) (by kernel_rfl)
      (OpenSpec.preRow_of_cond 8 hx (by kernel_rfl) (fun k hk => by cases hk; kernel_rfl) (by kernel_rfl) (laid_met os))) ?_
  intro W base args ds gs before hval0 hW _ hcond _ hL _ _
  have hsz0 : (DataW.weightsEach Tryd.prog [27, 3] (ds ++ gs)).all (· ≤ 8589934592) = true := small_each (by kernel_rfl) (hcond _ rfl)
  have hval : ∀ (j : Nat) t v, Tryd.f3.params[j]? = some t → args[j]? = some v → Value.okWide Tryd.prog W .any base t v := hval0
  have hW' := hW
  obtain ⟨p, q, hA0, hV, rfl, hfz, hnd⟩ := hW
  have hA : DataW.TrodAll enc Tryd.prog W 0 (fun _ => true) true Tryd.f3.params.toList args.toList ds p := hA0
  rw [Tryd.params3] at hA hval
  obtain ⟨v0, vs0, d0, ds0, p0, q0, hargs, rfl, rfl, h0, r0⟩ := trodAll_cons hA
  obtain ⟨v1, vs1, d1, ds1, p1, q1, rfl, rfl, rfl, h1, r1⟩ := trodAll_cons r0
  obtain ⟨rfl, rfl, rfl⟩ := trodAll_nil r1
  obtain rfl : args = #[v0, v1] := by cases args; simp_all
  obtain ⟨rfl, rfl⟩ := trodVars_none hV
  obtain ⟨hz0, hs0⟩ := sized_consR hsz0
  obtain ⟨hz1, hs1⟩ := sized_consR hs0
  have lt0 : ∀ x ∈ p0, x.block < W.heap.size := by obtain ⟨m, hm⟩ := h0; exact DataW.trod_lt m _ _ _ hm
  obtain ⟨y0, rv0, nm0, wf0⟩ := open_cdR (d := 9) (c := (.pr (.sl .str) (.pr (.sl (.pr (.int .u8) (.pr .str (.pr (.sl (.int .i64)) (.pr (.int .i64) (.pr (.pr (.int .i64) (.int .i64)) (.pr (.pr (.int .i64) (.pr (.sl (.pr (.int .i64) (.int .i64))) (.sl (.int .i64)))) (.pr .str (.pr (.int .u8) (.pr (.sl (.pr (.int .i64) (.int .i64))) (.sl (.pr (.int .i64) (.int .i64))))))))))))) (.pr (.pr (.int .i64) (.int .i64)) (.int .i64))))) true (by kernel_rfl) (by kernel_rfl) (by kernel_rfl) (hval 0 27 v0 rfl rfl) h0 hz0
  have lt1 : ∀ x ∈ p1, x.block < W.heap.size := by obtain ⟨m, hm⟩ := h1; exact DataW.trod_lt m _ _ _ hm
  obtain ⟨y1, rv1, nm1, wf1⟩ := open_cdR (d := 9) (c := (.int .i64)) false (by kernel_rfl) (by kernel_rfl) (by kernel_rfl) (hval 1 3 v1 rfl rfl) h1 hz1
  clear hA0 hval0
  obtain ⟨k, hk⟩ := pure_TopoOrder y0 y1 wf0 wf1
  refine (law_inst cfg_ok (okshuntlaw10_TopoOrder k) (x := (y0.1, y0.2.1, y0.2.2.1.1, y0.2.2.1.2, y0.2.2.2, y1)) (y := true) hk rfl (args := [argV true (.pr (.sl .str) (.pr (.sl (.pr (.int .u8) (.pr .str (.pr (.sl (.int .i64)) (.pr (.int .i64) (.pr (.pr (.int .i64) (.int .i64)) (.pr (.pr (.int .i64) (.pr (.sl (.pr (.int .i64) (.int .i64))) (.sl (.int .i64)))) (.pr .str (.pr (.int .u8) (.pr (.sl (.pr (.int .i64) (.int .i64))) (.sl (.pr (.int .i64) (.int .i64))))))))))))) (.pr (.pr (.int .i64) (.int .i64)) (.int .i64)))) y0, argV false (.int .i64) y1]) rfl (rvs_cons rv0 (rvs_cons rv1 rvs_nil)) (names_cons nm0 (names_cons nm1 rfl))).mono fun e W' ⟨he, bel⟩ => ?_
  subst he
  exact ⟨_, rfl, _, _, _, [], _, [], hW', trodAll_mk1 (shut_bool Tryd.underlying4 _), (trodAll_cons_mk (Below.trod laidOut (by kernel_rfl) (of_decide_eq_true (by kernel_rfl)) h0 bel lt0) (trodAll_cons_mk (Below.trod laidOut (by kernel_rfl) (of_decide_eq_true (by kernel_rfl)) h1 bel lt1) trodAll_mk0)), rfl, bel.frame _, fun h => by cases h⟩
theorem over : Rows.topoOrderUptoRow.holds Tryd.pinned (Rows.OpenSpec.upto Rows.topoOrderSpec) :=
  OpenClaim.holds_of_cond 3 Tryd.f3 rfl rfl rfl rfl rfl rfl rfl ⟨rfl, rfl, rfl, rfl, rfl⟩ rfl rfl rfl rfl rfl (by kernel_rfl) Tryd.func3 (by kernel_rfl)
    (of_decide_eq_true (by kernel_rfl)) (by unfold Func.isWrapper; first | (rw [if_pos (by decide +kernel)]; kernel_rfl) | (rw [if_neg (by decide +kernel)]; exact ⟨rfl, rfl⟩))
    (fun os started H enc _ F => by rw [OpenClaim.pre_eq_preRow]; exact lifted os started H enc F)
theorem proved : Rows.TopoOrderUptoCardSaid :=
  Claim7.holds_tied_plain_at .later [] _ _ _ _ over (fun _ h => by cases h) (by kernel_rfl) (fun _ h => by cases h) topoOrderUpto_row_tie rfl ⟨rfl, rfl⟩ (by kernel_rfl) rfl
    (fun f fn hf hfn => by
      obtain rfl : f = 3 := Option.some.inj ((show Tryd.prog.funcNamed "shunt/shuntlaw10.TopoOrder" = some 3 by kernel_rfl).symm.trans hf) |>.symm
      obtain rfl : fn = Tryd.f3 := (Option.some.inj (Tryd.func3.symm.trans hfn)).symm
      exact ⟨by kernel_rfl, fun j t ht => by
        rw [Tryd.params3] at ht
        have hm : t ∈ [27, 3] := by simpa using Array.mem_of_getElem? ht
        have hall : ([27, 3].all fun u => !Tryd.prog.wantsStandIn u) = true := by kernel_rfl
        exact (show Tryd.prog.wantsStandIn t = false by simpa using List.all_eq_true.1 hall t hm)⟩)
    (by kernel_rfl)
#print axioms proved
end Go.Proofs.YtlnailgfialgnaaDoor.topoOrderUpto
namespace Go.Proofs.YtlnailgfialgnaaDoor
/-- The row, under a short name, for the claim. -/
theorem topoOrderUpto_holds : Rows.TopoOrderUptoCardSaid := topoOrderUpto.proved
end Go.Proofs.YtlnailgfialgnaaDoor
