/- The law TopoTiedUpto returns true for every input, and its arguments read as they did. -/
import Derived.Test.YtlnailgfialgnaaGreatDoorMTopoTiedUpto2
import Derived.Test.YtlnailgfialgnaaGreatDoorRows
import Derived.Test.YtlnailgfialgnaaGreatDoorCards
import Derived.Test.YtlnailgfialgnaaGreatDoorTie
import Derived.WalkKit
import Derived.ProofKit
import Derived.OpenShut
import Derived.ShutString
import Derived.ChangeOld
import Derived.Below
import Derived.SizedLaws
import Derived.Carry
import Derived.LaidMore
import Derived.Lay
import Derived.SevenTiedAt
import Derived.Stop.Joined
import Derived.Handed
import Derived.LaidLaws
import Derived.Deep.DeepHandedRow
import Derived.Lib.LaidTab

set_option linter.unusedVariables false
set_option linter.unusedSimpArgs false
set_option maxRecDepth 10000
namespace Go.Proofs.YtlnailgfialgnaaGreatDoor.Am
open Go
def nmR : ByteArray := ByteArray.mk (List.toArray (116 :: (104 :: (101 :: (95 :: (110 :: (101 :: (119 :: (95 :: (114 :: (101 :: (115 :: (105 :: (115 :: (116 :: (111 :: (114 :: [])))))))))))))))))
def dR (x : Int) : Dv := (114, nmR, [x, 0], 0, (1, 0), (0, ([] : List (Int × Int)), ([] : List Int)), ByteArray.mk (List.toArray []), 0, ([] : List (Int × Int)), ([] : List (Int × Int)))
theorem qt9 (x : Int) : GoodD (dR x) := by
 refine ⟨⟨by show (0 : Int) ≤ 114; omega, by show (114 : Int) < 256; omega⟩, ?_, ?_, ?_, ?_, ?_, ?_, ?_⟩
 ·show nmR.size ≤ _
  have : nmR.size = 16 := rfl
  omega
 ·show 2 ≤ _; omega
 all_goals exact Nat.zero_le _
theorem qua {f0 : List ByteArray} {f1 : List Dv} (g : Gd f0 f1) (h : f1.length < 64) (x : Int) : Gd f0 (f1 ++ [dR x]) := by
 refine ⟨g.l0, by rw [List.length_append]; simp; omega, g.nm, fun d hd => ?_⟩
 rcases List.mem_append.1 hd with hd | hd
 ·exact g.dv d hd
 ·rw [List.mem_singleton] at hd; subst hd; exact qt9 x
theorem qjG (mode : Int) (d : Dv) (hd : ¬ LK mode d) : ∀ (l : List Dv) (i : Nat) (rt : Nat → Nat), lps mode (l ++ [d]) i rt = lps mode l i rt
 | [], i, rt => by
  show (if LK mode d then _ else lps mode [] (i + 1) rt) = _
  rw [if_neg hd]
  rfl
 | e :: l, i, rt => by
  rw [List.cons_append, lps, lps, qjG mode d hd l, qjG mode d hd l]
theorem qqT (rt : Nat → Nat) (a : Nat) : ∀ n, (flo (jn rt a 0) n).length ≤ (flo rt n).length ∧ (a < n → rt a ≠ rt 0 → (flo (jn rt a 0) n).length < (flo rt n).length)
 | 0 => ⟨Nat.le_refl _, fun h => absurd h (by omega)⟩
 | n + 1 => by
  obtain ⟨h1, h2⟩ := qqT rt a n
  have e0 : jn rt a 0 0 = rt 0 := by unfold jn; split <;> rfl
  rw [flo, flo, e0]
  by_cases c : rt n = rt 0
  ·have : jn rt a 0 n = rt 0 := by unfold jn; (split; rfl; exact c)
   rw [if_pos this, if_pos c]
   refine ⟨h1, fun ha hr => h2 (Nat.lt_of_le_of_ne (by omega) fun e => hr (e ▸ c)) hr⟩
  ·rw [if_neg c]
   by_cases c2 : jn rt a 0 n = rt 0
   ·rw [if_pos c2, List.length_append]
    exact ⟨by simp; omega, fun _ _ => by simp; omega⟩
   ·rw [if_neg c2, List.length_append, List.length_append]
    refine ⟨by simp; omega, fun ha hr => ?_⟩
    have : a < n := by
     refine Nat.lt_of_le_of_ne (by omega) fun e => ?_
     subst e
     exact c2 (by unfold jn; rw [if_pos rfl])
    have := h2 this hr
    simp; omega
theorem qxe (first : ByteArray) (hf : 0 ≤ qbX first 114) (rt : Nat → Nat) (x : Nat) : tie first rt (dR x) = jn rt x 0 := by
 have h2 : ¬ 0 ≤ qbX qiz (dR x).1 := by
  rw [qif]
  change (114 : Int).toNat.toUInt8 ∉ [(101 : UInt8), 103, 116]
  decide
 unfold tie
 rw [if_neg h2, if_pos (show 0 ≤ qbX first (dR x).1 from hf)]
 rfl
theorem qjH : ∀ (l : List (Nat × Nat)) (rt : Nat → Nat), qex l rt ≤ l.length
 | [], _ => Nat.le_refl _
 | p :: l, rt => by
  have := qjH l (J rt p)
  rw [qex, List.length_cons]
  split <;> omega
theorem qkD (mode : Int) : ∀ l : List Dv, (l.flatMap (lkE mode)).length ≤ l.length
 | [] => Nat.le_refl _
 | d :: l => by
  have := qkD mode l
  rw [List.flatMap_cons, List.length_append, List.length_cons]
  have : (lkE mode d).length ≤ 1 := by unfold lkE; split <;> simp
  omega
section
variable (mode n x1' : Int) (ls s : List Int) (hls : ls.length ≤ 1000000000) (hs : s.length ≤ 1000000000) (srt : ls.Pairwise (· < ·)) (sst : s.Pairwise (· < ·)) (f0 : List ByteArray) (f1 : List Dv) (f2 f3 f4 : Int) (g0 g1 : Nat) (g2 g3 g4 : Int) (m1 : List ByteArray) (m2 : List Dv) (mm : Nat)
include hls srt
theorem qyR (x : Int) (xl : Nat) (x2 x3 : Int) (j : Nat) (hj : ls[j]? = some x) : ∀ (d at1 : Nat), at1 + d = j →
  Rl (fun k q => qaz k q mode ls.length n mm (at1 : Int) x xl x2 x3 f0 f1 f2 f3 f4 ls g0 g1 g2 g3 g4 s m1 m2) (mode, ls.length, n, mm, (j : Int), x, xl, x2, x3, f0, f1, f2, f3, f4, ls, g0, g1, g2, g3, g4, s, m1, m2) := by
 have hlt : j < ls.length := (List.getElem?_eq_some_iff.1 hj).1
 intro d
 induction d with
 | zero =>
  intro at1 e
  obtain rfl : at1 = j := by omega
  refine Rl.up (f := fun k q => qaz k q mode ls.length n mm (at1 : Int) x xl x2 x3 f0 f1 f2 f3 f4 ls g0 g1 g2 g3 g4 s m1 m2) ?_
  show Rl (fun k q => qbH k (qaz k q) _ _ _ _ _ _ _ _ _ _ _ _ _ _ _ _ _ _ _ _ _ _ _) _
  unfold qbH
  exact Rl.t (by rw [decide_eq_true_eq]; omega) (Rl.t (by omega) (Rl.at (by rw [Int.toNat_natCast, Nat.zero_add]; exact hj) (Rl.f (by simp) (Rl.pure _))))
 | succ d ih =>
  intro at1 e
  have := ih (at1 + 1) (by omega)
  refine Rl.up (f := fun k q => qaz k q mode ls.length n mm (at1 : Int) x xl x2 x3 f0 f1 f2 f3 f4 ls g0 g1 g2 g3 g4 s m1 m2) ?_
  show Rl (fun k q => qbH k (qaz k q) _ _ _ _ _ _ _ _ _ _ _ _ _ _ _ _ _ _ _ _ _ _ _) _
  unfold qbH
  rw [qf (x := (at1 : Int) + 1) (by omega)]
  have hx : ls[at1] < ls[j] := List.pairwise_iff_getElem.1 srt at1 j (by omega) hlt (by omega)
  have he : ls[j] = x := by rw [List.getElem?_eq_getElem hlt] at hj; exact Option.some.inj hj
  exact Rl.t (by rw [decide_eq_true_eq]; omega) (Rl.t (by omega) (Rl.at (x := ls[at1]) (by rw [Int.toNat_natCast, Nat.zero_add]; exact List.getElem?_eq_getElem (by omega)) (Rl.t (by simp only [bne_iff_ne, ne_eq]; omega) this)))
include hs sst
theorem qta : ∀ (d i at1 : Nat), i + d = s.length → (∀ t (ht : t < s.length), i ≤ t → s[t] ≠ n ∧ ∃ j, at1 ≤ j ∧ ls[j]? = some s[t]) →
  Rl (fun k q => qN k q mode ls.length n mm (at1 : Int) s.length (s.length : Int) (i : Int) f0 f1 f2 f3 f4 ls g0 g1 g2 g3 g4 s m1 m2) (.inr (mode, ls.length, mm, f0, f1, f2, f3, f4, ls, g0, g1, g2, g3, g4, s, m1, m2)) := by
 intro d
 induction d with
 | zero =>
  intro i at1 e h
  refine Rl.up (f := fun k q => qN k q mode ls.length n mm (at1 : Int) s.length (s.length : Int) (i : Int) f0 f1 f2 f3 f4 ls g0 g1 g2 g3 g4 s m1 m2) ?_
  show Rl (fun k q => qbI k (qN k q) _ _ _ _ _ _ _ _ _ _ _ _ _ _ _ _ _ _ _ _ _ _) _
  unfold qbI
  exact Rl.f (by rw [decide_eq_true_eq]; omega) (Rl.pure _)
 | succ d ih =>
  intro i at1 e h
  have hi : i < s.length := by omega
  obtain ⟨hn, j, j1, j2⟩ := h i hi (Nat.le_refl _)
  have hlt : j < ls.length := (List.getElem?_eq_some_iff.1 j2).1
  have he : ls[j] = s[i] := by rw [List.getElem?_eq_getElem hlt] at j2; exact Option.some.inj j2
  have := ih (i + 1) j (by omega) (fun t ht t1 => by
   obtain ⟨h1, j', k1, k2⟩ := h t ht (by omega)
   refine ⟨h1, j', ?_, k2⟩
   rcases Nat.lt_or_ge j' j with c | c
   ·have hlt' : j' < ls.length := by omega
    have e1 : ls[j'] < ls[j] := List.pairwise_iff_getElem.1 srt j' j hlt' hlt c
    have e2 : s[i] < s[t] := List.pairwise_iff_getElem.1 sst i t hi ht (by omega)
    rw [List.getElem?_eq_getElem hlt'] at k2
    have := Option.some.inj k2
    omega
   ·exact c)
  refine Rl.up (f := fun k q => qN k q mode ls.length n mm (at1 : Int) s.length (s.length : Int) (i : Int) f0 f1 f2 f3 f4 ls g0 g1 g2 g3 g4 s m1 m2) ?_
  show Rl (fun k q => qbI k (qN k q) _ _ _ _ _ _ _ _ _ _ _ _ _ _ _ _ _ _ _ _ _ _) _
  unfold qbI
  refine Rl.t (by rw [decide_eq_true_eq]; omega) (Rl.t (by omega) (Rl.at (x := s[i]) (by rw [Int.toNat_natCast, Nat.zero_add]; exact List.getElem?_eq_getElem hi) (Rl.bind (qyR mode n ls s hls srt f0 f1 f2 f3 f4 g0 g1 g2 g3 g4 m1 m2 mm s[i] s.length (s.length : Int) (i : Int) j j2 (j - at1) at1 (by omega)).diag (Rl.t (by rw [beq_eq_false_iff_ne]; show (j : Int) ≠ (ls.length : Int); omega) (Rl.f (by rw [beq_iff_eq]; exact hn) ?_)))))
  show Rl (fun k q => qN k q mode ls.length n mm (j : Int) s.length (s.length : Int) (IntKind.i64.wrap ((i : Int) + 1)) f0 f1 f2 f3 f4 ls g0 g1 g2 g3 g4 s m1 m2) _
  rw [qf (x := (i : Int) + 1) (by omega)]
  exact this
end
theorem qub (f0 : List ByteArray) (f1 : List Dv) (f2 f3 f4 mode which : Int) (g : Gd f0 f1) (hw : -9223372036854775808 ≤ which ∧ which ≤ 9223372036854775807) : Rn (fun k => qc5 k f0 f1 f2 f3 f4 mode which) true := by
 have hl1 := g.l1
 have hl0 := g.l0
 refine Rn.up (f := fun k => qc5 k f0 f1 f2 f3 f4 mode which) ?_
 show Rn (fun k => qea k f0 f1 f2 f3 f4 mode which) _
 unfold qea
 obtain ⟨b, hb⟩ := qsm f0 f1 f2 f3 f4 (by omega)
 refine Rn.bind qpr (Rn.f (by decide) (Rn.bind hb ?_))
 cases b with
 | true => exact Rn.f (by decide) (Rn.pure _)
 | false =>
 refine Rn.t rfl ?_
 by_cases h64 : (f1.length : Int) ≥ 64
 ·exact Rn.t (decide_eq_true h64) (Rn.pure _)
 refine Rn.f (by rw [decide_eq_true_eq]; exact h64) ?_
 have hc := qkY f0 f1 f2 f3 f4 g
 have hk := qn2 g (f2 := f2) (f3 := f3) (f4 := f4)
 generalize chk f0 f1 f2 f3 f4 = c at hc hk
 have a1 := qkl f0 f1 f2 f3 f4 c hc hk mode
 have a3 := qk2 f0 f1 f2 f3 f4 c hc hk mode
 refine Rn.bind a1 ?_
 by_cases he : qcP c mode = 0
 rotate_left
 ·have e : qad f0 f1 c mode = [] := if_neg he
  rw [e]
  exact Rn.f (by simp [he]) (Rn.pure _)
 obtain ⟨c0, cm⟩ := qig he
 refine Rn.t (by simp [he]) ?_
 have eL : qad f0 f1 c mode = flo (flR (if mode = 2 then qeY else bOp) f1) f0.length := if_pos he
 have hfl : (qad f0 f1 c mode).length ≤ 1000000000 := by
  rw [eL]; have := qiY (flR (if mode = 2 then qeY else bOp) f1) f0.length; omega
 by_cases hz : (qad f0 f1 c mode).length = 0
 ·exact Rn.t (by simp [hz]) (Rn.const (congrArg some (by simp [hz])))
 refine Rn.f (by simp [hz]) ?_
 have hfirst : 0 ≤ qbX (if mode = 2 then qeY else bOp) 114 := by
  rw [qif]
  split
  ·rw [qpk]; decide
  ·decide
 have main : ∀ I : Int, 0 ≤ I → I < (qad f0 f1 c mode).length → ∃ a : Nat, (qad f0 f1 c mode)[0 + I.toNat]? = some (a : Int) ∧ a < f0.length ∧ flR (if mode = 2 then qeY else bOp) f1 a ≠ flR (if mode = 2 then qeY else bOp) f1 0 := by
  intro I h1 h2
  have hi : I.toNat < (qad f0 f1 c mode).length := by omega
  have hm := List.getElem_mem hi
  have hg : (qad f0 f1 c mode)[I.toNat]? = some (qad f0 f1 c mode)[I.toNat] := List.getElem?_eq_getElem hi
  generalize (qad f0 f1 c mode)[I.toNat] = y at hm hg
  rw [eL] at hm
  obtain ⟨a, h3, h4, rfl⟩ := (qhH _ _ _).1 hm
  exact ⟨a, by rw [Nat.zero_add]; exact hg, h3, h4⟩
 have tail : ∀ a : Nat, a < f0.length → flR (if mode = 2 then qeY else bOp) f1 a ≠ flR (if mode = 2 then qeY else bOp) f1 0 →
   ∃ c', Rn (fun k => qax k f0 (f1 ++ [dR a]) f2 f3 f4 mode) ((qad f0 (f1 ++ [dR a]) c' mode).length, qcP c' mode, qad f0 (f1 ++ [dR a]) c' mode) ∧
    Rn (fun k => qak k f0 (f1 ++ [dR a]) f2 f3 f4 mode) ((qcm (f1 ++ [dR a]) c' mode).length, qcP c' mode, qcm (f1 ++ [dR a]) c' mode) ∧
    Rn (fun k => qbd k f0 (f1 ++ [dR a]) f2 f3 f4) c' ∧ (qcP c' mode ≠ 0 → c' ≠ 0) ∧
    (qcP c' mode = 0 → qcm (f1 ++ [dR a]) c' mode = qcm f1 c mode ∧ (qad f0 (f1 ++ [dR a]) c' mode).length < (qad f0 f1 c mode).length ∧ (qad f0 (f1 ++ [dR a]) c' mode).length ≤ 1000000000 ∧ (qad f0 (f1 ++ [dR a]) c' mode).Pairwise (· < ·) ∧
     ∀ y ∈ qad f0 (f1 ++ [dR a]) c' mode, y ≠ (a : Int) ∧ y ∈ qad f0 f1 c mode) := by
  intro a ha1 ha2
  have g' := qua g (show f1.length < 64 by omega) (a : Int)
  have hc' := qkY f0 (f1 ++ [dR a]) f2 f3 f4 g'
  have hr' := qqS f0 (f1 ++ [dR a]) f2 f3 f4 g'
  have hk' := qn2 g' (f2 := f2) (f3 := f3) (f4 := f4)
  generalize chk f0 (f1 ++ [dR a]) f2 f3 f4 = c' at hc' hr' hk'
  refine ⟨c', qkl f0 _ f2 f3 f4 c' hc' hk' mode, qk2 f0 _ f2 f3 f4 c' hc' hk' mode, hr', fun h e => h (qjE e cm), fun h => ?_⟩
  have e1 : qad f0 (f1 ++ [dR a]) c' mode = flo (jn (flR (if mode = 2 then qeY else bOp) f1) a 0) f0.length := by
   unfold qad
   rw [if_pos h]
   congr 1
   unfold flR
   rw [List.foldl_append]
   exact qxe _ hfirst _ a
  have e2 : qcm (f1 ++ [dR a]) c' mode = qcm f1 c mode := by
   unfold qcm
   rw [if_pos h, if_pos he]
   exact qjG mode (dR a) (fun hlk => hlk.elim (fun h => absurd (show (114 : Int) = 118 from h) (by decide)) (fun h => absurd (show (114 : Int) = 108 from h.1) (by decide))) f1 0 id
  rw [e1, eL]
  generalize flR (if mode = 2 then qeY else bOp) f1 = rt at ha2 ⊢
  have e0 : jn rt a 0 0 = rt 0 := by unfold jn; split <;> rfl
  refine ⟨e2, (qqT rt a f0.length).2 ha1 ha2, by have := qiY (jn rt a 0) f0.length; omega, qgR _ _, fun y hy => ?_⟩
  obtain ⟨i, i1, i2, rfl⟩ := (qhH _ _ _).1 hy
  rw [e0] at i2
  have hne : rt i ≠ rt a := fun e => i2 (by unfold jn; rw [if_pos e])
  refine ⟨fun e => hne (by rw [show i = a by omega]), (qhH _ _ _).2 ⟨i, i1, fun e => i2 ?_, rfl⟩⟩
  unfold jn
  rw [if_neg hne]
  exact e
 have hsrt : (qad f0 f1 c mode).Pairwise (· < ·) := by rw [eL]; exact qgR _ _
 have hcp := qt7 f0 f1 f2 f3 f4 g
 have tk0 : List.take f0.length f0 = f0 := List.take_length
 have tk1 : List.take f1.length f1 = f1 := List.take_length
 have idx : ∀ w : Int, 0 ≤ w → 0 ≤ Int.tmod w ((qad f0 f1 c mode).length : Int) ∧ Int.tmod w ((qad f0 f1 c mode).length : Int) < ((qad f0 f1 c mode).length : Int) := by
  intro w h
  rw [Int.tmod_eq_emod_of_nonneg h]
  exact ⟨Int.emod_nonneg _ (by omega), Int.emod_lt_of_pos _ (by omega)⟩
 by_cases wn : which < 0
 ·have w1 : IntKind.i64.wrap (0 - IntKind.i64.wrap (which + 1)) = -(which + 1) := by
   rw [qf (x := which + 1) (by omega), qf (by omega)]; omega
  obtain ⟨i1, i2⟩ := idx (-(which + 1)) (by omega)
  refine Rn.t (decide_eq_true wn) (Rn.f (by show ¬ ((qad f0 f1 c mode).length : Int) = 0; omega) ?_)
  rw [w1]
  show Rn (fun k => if 0 ≤ Int.tmod (-(which + 1)) ((qad f0 f1 c mode).length : Int) ∧ _ then _ else none) _
  generalize Int.tmod (-(which + 1)) ((qad f0 f1 c mode).length : Int) = I at i1 i2
  obtain ⟨a, m1, m2, m3⟩ := main I i1 i2
  obtain ⟨c', t1, t2, t3, t4, t5⟩ := tail a m2 m3
  refine Rn.t ⟨i1, i2⟩ (Rn.at m1 (Rn.bind hcp (Rn.t (Nat.le_refl _) (Rn.t (by show (f1.length + 1) * 200 ≤ _; omega) (Rn.t (by show 0 + f0.length ≤ f0.length; omega) (Rn.t (by show 0 + (f1.length + 1) ≤ (List.take f1.length f1 ++ [dR a]).length; rw [tk1, List.length_append]; simp) ?_))))))
  have tk2 : List.take (f1.length + 1) (f1 ++ [dR a]) = f1 ++ [dR a] := List.take_of_length_le (by rw [List.length_append]; simp)
  show Rn (fun k => Option.bind (qax k (List.take f0.length f0) (List.take (f1.length + 1) (List.take f1.length f1 ++ [dR a])) f2 f3 f4 mode) _) _
  rw [tk0, tk1, tk2]
  refine Rn.bind t1 ?_
  by_cases he' : qcP c' mode = 0
  rotate_left
  ·refine Rn.t (by simp [he']) (Rn.t (by show 0 + f0.length ≤ f0.length; omega) (Rn.t (by show 0 + (f1.length + 1) ≤ (f1 ++ [dR a]).length; rw [List.length_append]; simp) ?_))
   show Rn (fun k => Option.bind (qbd k f0 (List.take (f1.length + 1) (f1 ++ [dR a])) f2 f3 f4) _) _
   rw [tk2]
   exact Rn.bind t3 (Rn.const (congrArg some (by simp [t4 he'])))
  obtain ⟨u1, u2, u3, u4, u5⟩ := t5 he'
  have hl0 := qta mode (a : Int) (qad f0 f1 c mode) (qad f0 (f1 ++ [dR a]) c' mode) hfl u3 hsrt u4 f0 f1 f2 f3 f4 f0.length (f1.length + 1) f2 f3 f4 f0 (f1 ++ [dR a]) (qad f0 (f1 ++ [dR a]) c' mode).length (qad f0 (f1 ++ [dR a]) c' mode).length 0 0 (by omega) (fun t ht _ => by
   obtain ⟨h1, h2⟩ := u5 _ (List.getElem_mem ht)
   obtain ⟨j, hj⟩ := List.mem_iff_getElem?.1 h2
   exact ⟨h1, j, Nat.zero_le _, hj⟩)
  refine Rn.f (by simp [he']) (Rn.bind hl0.diag ?_)
  show Rn (fun k => Option.bind (qak k f0 f1 f2 f3 f4 mode) _) _
  refine Rn.bind a3 (Rn.t (by show 0 + f0.length ≤ f0.length; omega) (Rn.t (by show 0 + (f1.length + 1) ≤ (f1 ++ [dR a]).length; rw [List.length_append]; simp) ?_))
  show Rn (fun k => Option.bind (qak k (List.take f0.length f0) (List.take (f1.length + 1) (f1 ++ [dR a])) f2 f3 f4 mode) _) _
  rw [tk0, tk2]
  refine Rn.bind t2 (Rn.t (by rw [decide_eq_true_eq]; show ((qad f0 (f1 ++ [dR a]) c' mode).length : Int) < ((qad f0 f1 c mode).length : Int); omega) (Rn.t (by simp [he]) (Rn.t (by simp [he']) (Rn.t (by simp) (Rn.t (by simp) ?_)))))
  show Rn (fun k => Option.bind (qb1 k (List.take (qcm f1 c mode).length (qcm f1 c mode)) (List.take (qcm (f1 ++ [dR a]) c' mode).length (qcm (f1 ++ [dR a]) c' mode))) _) _
  rw [List.take_length, List.take_length, u1]
  have hli : (qcm f1 c mode).length ≤ 1000000000000000000 := by
   unfold qcm
   rw [if_pos he, qgC]
   have := qjH (f1.flatMap (lkE mode)) id
   have := qkD mode f1
   omega
  have hi := qn3 (qcm f1 c mode) (qcm f1 c mode) hli
  rw [decide_eq_true rfl] at hi
  exact Rn.bind hi (Rn.pure _)
 ·obtain ⟨i1, i2⟩ := idx which (by omega)
  refine Rn.f (by rw [decide_eq_true_eq]; exact wn) (Rn.f (by show ¬ ((qad f0 f1 c mode).length : Int) = 0; omega) ?_)
  show Rn (fun k => if 0 ≤ Int.tmod which ((qad f0 f1 c mode).length : Int) ∧ _ then _ else none) _
  generalize Int.tmod which ((qad f0 f1 c mode).length : Int) = I at i1 i2
  obtain ⟨a, m1, m2, m3⟩ := main I i1 i2
  obtain ⟨c', t1, t2, t3, t4, t5⟩ := tail a m2 m3
  refine Rn.t ⟨i1, i2⟩ (Rn.at m1 (Rn.bind hcp (Rn.t (Nat.le_refl _) (Rn.t (by show (f1.length + 1) * 200 ≤ _; omega) (Rn.t (by show 0 + f0.length ≤ f0.length; omega) (Rn.t (by show 0 + (f1.length + 1) ≤ (List.take f1.length f1 ++ [dR a]).length; rw [tk1, List.length_append]; simp) ?_))))))
  have tk2 : List.take (f1.length + 1) (f1 ++ [dR a]) = f1 ++ [dR a] := List.take_of_length_le (by rw [List.length_append]; simp)
  show Rn (fun k => Option.bind (qax k (List.take f0.length f0) (List.take (f1.length + 1) (List.take f1.length f1 ++ [dR a])) f2 f3 f4 mode) _) _
  rw [tk0, tk1, tk2]
  refine Rn.bind t1 ?_
  by_cases he' : qcP c' mode = 0
  rotate_left
  ·refine Rn.t (by simp [he']) (Rn.t (by show 0 + f0.length ≤ f0.length; omega) (Rn.t (by show 0 + (f1.length + 1) ≤ (f1 ++ [dR a]).length; rw [List.length_append]; simp) ?_))
   show Rn (fun k => Option.bind (qbd k f0 (List.take (f1.length + 1) (f1 ++ [dR a])) f2 f3 f4) _) _
   rw [tk2]
   exact Rn.bind t3 (Rn.const (congrArg some (by simp [t4 he'])))
  obtain ⟨u1, u2, u3, u4, u5⟩ := t5 he'
  have hl0 := qta mode (a : Int) (qad f0 f1 c mode) (qad f0 (f1 ++ [dR a]) c' mode) hfl u3 hsrt u4 f0 f1 f2 f3 f4 f0.length (f1.length + 1) f2 f3 f4 f0 (f1 ++ [dR a]) (qad f0 (f1 ++ [dR a]) c' mode).length (qad f0 (f1 ++ [dR a]) c' mode).length 0 0 (by omega) (fun t ht _ => by
   obtain ⟨h1, h2⟩ := u5 _ (List.getElem_mem ht)
   obtain ⟨j, hj⟩ := List.mem_iff_getElem?.1 h2
   exact ⟨h1, j, Nat.zero_le _, hj⟩)
  refine Rn.f (by simp [he']) (Rn.bind hl0.diag ?_)
  show Rn (fun k => Option.bind (qak k f0 f1 f2 f3 f4 mode) _) _
  refine Rn.bind a3 (Rn.t (by show 0 + f0.length ≤ f0.length; omega) (Rn.t (by show 0 + (f1.length + 1) ≤ (f1 ++ [dR a]).length; rw [List.length_append]; simp) ?_))
  show Rn (fun k => Option.bind (qak k (List.take f0.length f0) (List.take (f1.length + 1) (f1 ++ [dR a])) f2 f3 f4 mode) _) _
  rw [tk0, tk2]
  refine Rn.bind t2 (Rn.t (by rw [decide_eq_true_eq]; show ((qad f0 (f1 ++ [dR a]) c' mode).length : Int) < ((qad f0 f1 c mode).length : Int); omega) (Rn.t (by simp [he]) (Rn.t (by simp [he']) (Rn.t (by simp) (Rn.t (by simp) ?_)))))
  show Rn (fun k => Option.bind (qb1 k (List.take (qcm f1 c mode).length (qcm f1 c mode)) (List.take (qcm (f1 ++ [dR a]) c' mode).length (qcm (f1 ++ [dR a]) c' mode))) _) _
  rw [List.take_length, List.take_length, u1]
  have hli : (qcm f1 c mode).length ≤ 1000000000000000000 := by
   unfold qcm
   rw [if_pos he, qgC]
   have := qjH (f1.flatMap (lkE mode)) id
   have := qkD mode f1
   omega
  have hi := qn3 (qcm f1 c mode) (qcm f1 c mode) hli
  rw [decide_eq_true rfl] at hi
  exact Rn.bind hi (Rn.pure _)
theorem qlc (x : qkk.D) (mode which : Int) (w : qgl 8589934592 qkk x) (wm : qgl 8589934592 (.int .i64) mode) (ww : qgl 8589934592 (.int .i64) which) : ∃ k, qc5 k x.1 x.2.1 x.2.2.1.1 x.2.2.1.2 x.2.2.2 mode which = some true := by
 simp only [qgl, Lit.wf, IntKind.min, IntKind.max, IntKind.signed, IntKind.bits] at ww
 obtain ⟨K, h⟩ := qub x.1 x.2.1 x.2.2.1.1 x.2.2.1.2 x.2.2.2 mode which (qyP w) (by simp at ww; omega)
 exact ⟨K, h K (Nat.le_refl _)⟩
end Go.Proofs.YtlnailgfialgnaaGreatDoor.Am
namespace Go.Proofs.YtlnailgfialgnaaGreatDoor.topoTiedUpto
open Go.ChangeShapes Go.WideShapes Go.ChangeAt Go.RowKit
open Go.Proofs.YtlnailgfialgnaaGreatDoor.Am
set_option linter.unusedVariables false
theorem own : ownKnob Tryz.prog.godebug = none := by kernel_rfl
theorem laidOut : laidOutB Tryz.prog = true := by kernel_rfl
theorem reads (os : Os) {H : Type} (enc : TypeId × Value → H) : ∃ places, DataW.whole enc Tryz.prog ((World.laidAll Tryz.prog os Rows.topoTiedUptoRow.laid).forCall (fun _ _ => 0) ⟨#[], #[.agg #[.slice none 0 0, .slice none 0 0, .int .i64 0, .int .i64 0, .int .i64 0], .int .i64 0, .int .i64 0], []⟩).memory Tryz.f4.params.toList Rows.topoTiedSpec.vars false (#[.agg #[.slice none 0 0, .slice none 0 0, .int .i64 0, .int .i64 0, .int .i64 0], .int .i64 0, .int .i64 0] : Array Value).toList 8 = some ([.agg [.nil, .nil, .agg [.lit (.int .i64 0), .lit (.int .i64 0)], .lit (.int .i64 0)], .lit (.int .i64 0), .lit (.int .i64 0)], [], places) :=
  ⟨[], by kernel_rfl⟩
theorem laid_met (os : Os) : laidMet Tryz.prog Rows.topoTiedUptoRow.laid ((World.laidAll Tryz.prog os Rows.topoTiedUptoRow.laid).forCall (fun _ _ => 0) ⟨#[], #[.agg #[.slice none 0 0, .slice none 0 0, .int .i64 0, .int .i64 0, .int .i64 0], .int .i64 0, .int .i64 0], []⟩).memory :=
  laidMet_of_run' 8 (by kernel_rfl) (by kernel_rfl)
set_option maxRecDepth 100000 in
theorem lifted (os : Os) (started : os.Started) (H : Type) (enc : TypeId × Value → H) (F : Stop.Interp) :
    ReturnsInHanded {} Tryz.checked os 4 .any ((Rows.OpenSpec.upto Rows.topoTiedSpec).preRow enc Tryz.prog Tryz.f4 Rows.topoTiedUptoRow.domain false Rows.topoTiedUptoRow.laid) (((Rows.OpenSpec.upto Rows.topoTiedSpec).at F).post enc Tryz.prog Tryz.f4 false true false false) := by
  obtain ⟨places, hx⟩ := reads os enc
  refine returnsInHanded_of_row (C := Tryz.checked) (s := Rows.OpenSpec.upto Rows.topoTiedSpec) own started (by kernel_rfl) Tryz.func4
    (witness_row_at (enc := enc) (C := Tryz.checked) false (World.laidAll Tryz.prog os Rows.topoTiedUptoRow.laid) #[.agg #[.slice none 0 0, .slice none 0 0, .int .i64 0, .int .i64 0, .int .i64 0], .int .i64 0, .int .i64 0] (World.laidAll_os _ _ _) (by kernel_rfl) (by kernel_rfl) (by kernel_rfl)
      (OpenSpec.preRow_of_cond 8 hx (by kernel_rfl) (fun k hk => by cases hk; kernel_rfl) (by kernel_rfl) (laid_met os))) ?_
  intro W base args ds gs before hval0 hW _ hcond _ hL _ _
  have hsz0 : (DataW.weightsEach Tryz.prog [27, 3, 3] (ds ++ gs)).all (· ≤ 8589934592) = true := qpn (by kernel_rfl) (hcond _ rfl)
  have hval : ∀ (j : Nat) t v, Tryz.f4.params[j]? = some t → args[j]? = some v → Value.okWide Tryz.prog W .any base t v := hval0
  have hW' := hW
  obtain ⟨p, q, hA0, hV, rfl, hfz, hnd⟩ := hW
  have hA : DataW.TrodAll enc Tryz.prog W 0 (fun _ => true) true Tryz.f4.params.toList args.toList ds p := hA0
  rw [Tryz.params4] at hA hval
  obtain ⟨v0, vs0, d0, ds0, p0, q0, hargs, rfl, rfl, h0, r0⟩ := trodAll_cons hA
  obtain ⟨v1, vs1, d1, ds1, p1, q1, rfl, rfl, rfl, h1, r1⟩ := trodAll_cons r0
  obtain ⟨v2, vs2, d2, ds2, p2, q2, rfl, rfl, rfl, h2, r2⟩ := trodAll_cons r1
  obtain ⟨rfl, rfl, rfl⟩ := trodAll_nil r2
  obtain rfl : args = #[v0, v1, v2] := by cases args; simp_all
  obtain ⟨rfl, rfl⟩ := trodVars_none hV
  obtain ⟨hz0, hs0⟩ := qhw hsz0
  obtain ⟨hz1, hs1⟩ := qhw hs0
  obtain ⟨hz2, hs2⟩ := qhw hs1
  have lt0 : ∀ x ∈ p0, x.block < W.heap.size := by obtain ⟨m, hm⟩ := h0; exact DataW.trod_lt m _ _ _ hm
  obtain ⟨y0, rv0, nm0, wf0⟩ := qjC (d := 9) (c := (.pr (.sl .str) (.pr (.sl (.pr (.int .u8) (.pr .str (.pr (.sl (.int .i64)) (.pr (.int .i64) (.pr (.pr (.int .i64) (.int .i64)) (.pr (.pr (.int .i64) (.pr (.sl (.pr (.int .i64) (.int .i64))) (.sl (.int .i64)))) (.pr .str (.pr (.int .u8) (.pr (.sl (.pr (.int .i64) (.int .i64))) (.sl (.pr (.int .i64) (.int .i64))))))))))))) (.pr (.pr (.int .i64) (.int .i64)) (.int .i64))))) true (by kernel_rfl) (by kernel_rfl) (by kernel_rfl) (hval 0 27 v0 rfl rfl) h0 hz0
  have lt1 : ∀ x ∈ p1, x.block < W.heap.size := by obtain ⟨m, hm⟩ := h1; exact DataW.trod_lt m _ _ _ hm
  obtain ⟨y1, rv1, nm1, wf1⟩ := qjC (d := 9) (c := (.int .i64)) false (by kernel_rfl) (by kernel_rfl) (by kernel_rfl) (hval 1 3 v1 rfl rfl) h1 hz1
  have lt2 : ∀ x ∈ p2, x.block < W.heap.size := by obtain ⟨m, hm⟩ := h2; exact DataW.trod_lt m _ _ _ hm
  obtain ⟨y2, rv2, nm2, wf2⟩ := qjC (d := 9) (c := (.int .i64)) false (by kernel_rfl) (by kernel_rfl) (by kernel_rfl) (hval 2 3 v2 rfl rfl) h2 hz2
  clear hA0 hval0
  obtain ⟨k, hk⟩ := qlc y0 y1 y2 wf0 wf1 wf2
  refine (qrY quD (qyJ k) (x := (y0.1, y0.2.1, y0.2.2.1.1, y0.2.2.1.2, y0.2.2.2, y1, y2)) (y := true) hk rfl (args := [qic true (.pr (.sl .str) (.pr (.sl (.pr (.int .u8) (.pr .str (.pr (.sl (.int .i64)) (.pr (.int .i64) (.pr (.pr (.int .i64) (.int .i64)) (.pr (.pr (.int .i64) (.pr (.sl (.pr (.int .i64) (.int .i64))) (.sl (.int .i64)))) (.pr .str (.pr (.int .u8) (.pr (.sl (.pr (.int .i64) (.int .i64))) (.sl (.pr (.int .i64) (.int .i64))))))))))))) (.pr (.pr (.int .i64) (.int .i64)) (.int .i64)))) y0, qic false (.int .i64) y1, qic false (.int .i64) y2]) rfl (qjv rv0 (qjv rv1 (qjv rv2 qtN))) (qid nm0 (qid nm1 (qid nm2 rfl)))).mono fun e W' ⟨he, bel⟩ => ?_
  subst he
  exact ⟨_, rfl, _, _, _, [], _, [], hW', trodAll_mk1 (shut_bool Tryz.underlying4 _), (trodAll_cons_mk (Below.trod laidOut (by kernel_rfl) (of_decide_eq_true (by kernel_rfl)) h0 bel lt0) (trodAll_cons_mk (Below.trod laidOut (by kernel_rfl) (of_decide_eq_true (by kernel_rfl)) h1 bel lt1) (trodAll_cons_mk (Below.trod laidOut (by kernel_rfl) (of_decide_eq_true (by kernel_rfl)) h2 bel lt2) trodAll_mk0))), rfl, bel.frame _, fun h => by cases h⟩
theorem over : Rows.topoTiedUptoRow.holds Tryz.pinned (Rows.OpenSpec.upto Rows.topoTiedSpec) :=
  OpenClaim.holds_of_cond 4 Tryz.f4 rfl rfl rfl rfl rfl rfl rfl ⟨rfl, rfl, rfl, rfl, rfl⟩ rfl rfl rfl rfl rfl (by kernel_rfl) Tryz.func4 (by kernel_rfl)
    (of_decide_eq_true (by kernel_rfl)) (by unfold Func.isWrapper; first | (rw [if_pos (by decide +kernel)]; kernel_rfl) | (rw [if_neg (by decide +kernel)]; exact ⟨rfl, rfl⟩))
    (fun os started H enc _ F => by rw [OpenClaim.pre_eq_preRow]; exact lifted os started H enc F)
theorem proved : Rows.TopoTiedUptoCardSaid :=
  Claim7.holds_tied_plain_at .later [] _ _ _ _ over (fun _ h => by cases h) (by kernel_rfl) (fun _ h => by cases h) topoTiedUpto_row_tie rfl ⟨rfl, rfl⟩ (by kernel_rfl) rfl
    (fun f fn hf hfn => by
      obtain rfl : f = 4 := Option.some.inj ((show Tryz.prog.funcNamed "shunt/shuntlaw10.TopoTied" = some 4 by kernel_rfl).symm.trans hf) |>.symm
      obtain rfl : fn = Tryz.f4 := (Option.some.inj (Tryz.func4.symm.trans hfn)).symm
      exact ⟨by kernel_rfl, fun j t ht => by
        rw [Tryz.params4] at ht
        have hm : t ∈ [27, 3, 3] := by simpa using Array.mem_of_getElem? ht
        have hall : ([27, 3, 3].all fun u => !Tryz.prog.wantsStandIn u) = true := by kernel_rfl
        exact (show Tryz.prog.wantsStandIn t = false by simpa using List.all_eq_true.1 hall t hm)⟩)
    (by kernel_rfl)
#print axioms proved
end Go.Proofs.YtlnailgfialgnaaGreatDoor.topoTiedUpto
namespace Go.Proofs.YtlnailgfialgnaaGreatDoor
theorem topoTiedUpto_holds : Rows.TopoTiedUptoCardSaid := topoTiedUpto.proved
end Go.Proofs.YtlnailgfialgnaaGreatDoor
