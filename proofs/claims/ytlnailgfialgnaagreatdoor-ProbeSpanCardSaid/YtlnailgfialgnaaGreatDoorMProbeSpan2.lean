/- The law ProbeSpan returns true for every input, and its arguments read as they did. -/
import Derived.Test.YtlnailgfialgnaaGreatDoorMProbeSpan1
import Derived.Test.YtlnailgfialgnaaGreatDoorRows
import Derived.Test.YtlnailgfialgnaaGreatDoorCards
import Derived.Test.YtlnailgfialgnaaGreatDoorTie
import Derived.WalkKit
import Derived.ProofKit
import Derived.OpenShut
import Derived.ShutString
import Derived.ChangeOld
import Derived.Below
import Derived.SizedLaws
import Derived.Carry
import Derived.LaidMore
import Derived.Lay
import Derived.SevenTiedAt
import Derived.Stop.Joined
import Derived.Handed
import Derived.LaidLaws

set_option linter.unusedVariables false
set_option linter.unusedSimpArgs false
set_option maxRecDepth 10000
namespace Go.Proofs.YtlnailgfialgnaaGreatDoor.Am
open Go
theorem int_fr (v : Int) {l m : List Int} (h : Nm W (decide (v < 0)) l v) (h1 : Nm W (decide ((1 : Int) < 0)) m 1) : Fr (decide (v < 0)) l (decide ((1 : Int) < 0)) m (v : Rat) :=
  ⟨by rw [Rat.num_intCast]; exact h, by rw [Rat.den_intCast]; exact h1⟩
theorem cmp_int (S n v : Int) (hn : 0 < n) : cmpR (Rat.divInt S n) (v : Rat) = cmpZ S (v * n) := by
  unfold cmpR
  rw [Rat.num_intCast, Rat.den_intCast]
  have hd := Rat.den_pos' (Rat.divInt S n)
  have e := Rat.num_divInt_den (Rat.divInt S n)
  rw [Rat.divInt_eq_divInt_iff (by omega) (by omega)] at e
  generalize (Rat.divInt S n).num = a at *
  generalize ((Rat.divInt S n).den : Int) = d at *
  have key : ∀ x y : Int, (x < y ↔ x * (n * d) < y * (n * d)) := fun x y => ⟨fun h => Int.mul_lt_mul_of_pos_right h (Int.mul_pos hn hd), fun h => Int.lt_of_mul_lt_mul_right h (Int.le_of_lt (Int.mul_pos hn hd))⟩
  have k1 : (a * ((1 : Nat) : Int) < v * d ↔ S < v * n) := by
    have h1 : a * ((1 : Nat) : Int) < v * d ↔ a * n < v * d * n := by
      rw [Int.natCast_one, Int.mul_one]
      exact ⟨fun h => Int.mul_lt_mul_of_pos_right h hn, fun h => Int.lt_of_mul_lt_mul_right h (Int.le_of_lt hn)⟩
    have h2 : S < v * n ↔ S * d < v * n * d := ⟨fun h => Int.mul_lt_mul_of_pos_right h hd, fun h => Int.lt_of_mul_lt_mul_right h (Int.le_of_lt hd)⟩
    rw [h1, h2, e, show v * d * n = v * n * d by grind]
  have k2 : (a * ((1 : Nat) : Int) = v * d ↔ S = v * n) := by
    rw [Int.natCast_one, Int.mul_one]
    constructor
    · intro h
      have : S * d = v * n * d := by rw [← e, h]; grind
      exact Int.eq_of_mul_eq_mul_right (by omega) this
    · intro h
      have : a * n = v * d * n := by rw [e, h]; grind
      exact Int.eq_of_mul_eq_mul_right (by omega) this
  unfold cmpZ
  simp only [k1, k2]
theorem sum_ge (lo : Int) : ∀ l : List Int, (∀ v ∈ l, lo ≤ v) → lo * (l.length : Int) ≤ l.sum
  | [], _ => by simp
  | x :: l, h => by
    have h1 := h x (List.mem_cons_self ..)
    have h2 := sum_ge lo l (fun v hv => h v (List.mem_cons_of_mem _ hv))
    rw [List.sum_cons, List.length_cons]
    have : lo * (((l.length + 1 : Nat)) : Int) = lo * (l.length : Int) + lo := by rw [Int.natCast_add, Int.mul_add]; simp
    omega
theorem sum_le (hi : Int) : ∀ l : List Int, (∀ v ∈ l, v ≤ hi) → l.sum ≤ hi * (l.length : Int)
  | [], _ => by simp
  | x :: l, h => by
    have h1 := h x (List.mem_cons_self ..)
    have h2 := sum_le hi l (fun v hv => h v (List.mem_cons_of_mem _ hv))
    rw [List.sum_cons, List.length_cons]
    have : hi * (((l.length + 1 : Nat)) : Int) = hi * (l.length : Int) + hi := by rw [Int.natCast_add, Int.mul_add]; simp
    omega
theorem pspan_loop (low high e f : Int) (row : List Int) (hl : row.length ≤ 1000000000) (h1 : ∀ v ∈ row, low ≤ v) (h2 : ∀ v ∈ row, v ≤ high) (s : Bool) (p : List Int) (t : Bool) (r : List Int) : ∀ (d i : Nat), i + d = row.length →
    Rl (fun k q => Lshuntlaw20_ProbeSpan_0 k q low high e f (decide (low ∈ row.take i)) (decide (high ∈ row.take i)) row (row.length : Int) (i : Int) s p t r) (.inr (low, high, e, f, decide (low ∈ row), decide (high ∈ row), s, p, t, r)) := by
  intro d
  induction d with
  | zero =>
    intro i e
    obtain rfl : i = row.length := by omega
    refine Rl.up (f := fun k q => Lshuntlaw20_ProbeSpan_0 k q low high _ f (decide (low ∈ row.take row.length)) (decide (high ∈ row.take row.length)) row (row.length : Int) (row.length : Int) s p t r) ?_
    show Rl (fun k q => Lshuntlaw20_ProbeSpan_0s k (Lshuntlaw20_ProbeSpan_0 k q) _ _ _ _ _ _ _ _ _ _ _ _ _) _
    unfold Lshuntlaw20_ProbeSpan_0s
    rw [List.take_length]
    exact Rl.f (by simp) (Rl.pure _)
  | succ d ih =>
    intro i e
    have hi : i < row.length := by omega
    have eg : row[i]? = some row[i] := List.getElem?_eq_getElem hi
    have hv1 := h1 _ (List.getElem_mem hi)
    have hv2 := h2 _ (List.getElem_mem hi)
    have et : row.take (i + 1) = row.take i ++ [row[i]] := by rw [List.take_add_one, eg]; rfl
    generalize row[i] = v at eg hv1 hv2 et
    have ih' := ih (i + 1) (by omega)
    rw [et] at ih'
    have ml : decide (low ∈ row.take i ++ [v]) = (decide (low ∈ row.take i) || (v == low)) := by
      rw [Bool.eq_iff_iff, decide_eq_true_eq, Bool.or_eq_true, decide_eq_true_eq, beq_iff_eq, List.mem_append, List.mem_singleton]
      exact or_congr Iff.rfl ⟨fun h => h.symm, fun h => h.symm⟩
    have mh : decide (high ∈ row.take i ++ [v]) = (decide (high ∈ row.take i) || (v == high)) := by
      rw [Bool.eq_iff_iff, decide_eq_true_eq, Bool.or_eq_true, decide_eq_true_eq, beq_iff_eq, List.mem_append, List.mem_singleton]
      exact or_congr Iff.rfl ⟨fun h => h.symm, fun h => h.symm⟩
    rw [ml, mh] at ih'
    generalize decide (low ∈ row.take i) = bl at ih' ⊢
    generalize decide (high ∈ row.take i) = bh at ih' ⊢
    refine Rl.up (f := fun k q => Lshuntlaw20_ProbeSpan_0 k q low high _ f bl bh row (row.length : Int) (i : Int) s p t r) ?_
    show Rl (fun k q => Lshuntlaw20_ProbeSpan_0s k (Lshuntlaw20_ProbeSpan_0 k q) _ _ _ _ _ _ _ _ _ _ _ _ _) _
    unfold Lshuntlaw20_ProbeSpan_0s
    rw [wrap_i64 (x := (i : Int) + 1) (by omega)]
    refine Rl.t (by rw [decide_eq_true_eq]; omega) (Rl.t (by omega) (Rl.at (by rw [Int.toNat_natCast]; exact eg) (Rl.t (by rw [decide_eq_false_iff_not]; omega) (Rl.f (by rw [decide_eq_true_eq]; omega) ?_))))
    cases bl <;> cases bh <;> simp only [Bool.false_or, Bool.true_or] at ih'
    · exact Rl.t rfl (Rl.t rfl ih')
    · exact Rl.t rfl (Rl.f (by decide) ih')
    · exact Rl.f (by decide) (Rl.t rfl ih')
    · exact Rl.f (by decide) (Rl.f (by decide) ih')
theorem span_law (row : List Int) (hl : row.length ≤ 1000000000000000) : Rn (fun k => Fshuntlaw20_ProbeSpan k row) true := by
  refine Rn.up (f := fun k => Fshuntlaw20_ProbeSpan k row) ?_
  show Rn (fun k => bshuntlaw20_ProbeSpan k row) _
  unfold bshuntlaw20_ProbeSpan
  refine Rn.bind awake20_ev (Rn.f (by decide) ?_)
  by_cases h2 : (row.length : Int) > 2000
  · exact Rn.f (by simpa using h2) (Rn.pure _)
  refine Rn.t (by simpa using h2) (Rn.bind (rOut_ev row (by omega)) ?_)
  cases ho : row.any outV
  rotate_left
  · exact Rn.t rfl (Rn.pure _)
  refine Rn.f (by decide) ?_
  by_cases h0 : row.length = 0
  · have hk : lookV row = 6 := by unfold lookV; rw [ho, if_neg (by decide), if_pos h0]
    have hs := span_ev row (by omega)
    rw [if_neg (by rw [hk]; decide), hk] at hs
    have hm : Rn (fun k => Fprobe_Mean k row) (false, [], false, [], 6) := by
      refine Rn.up (f := fun k => Fprobe_Mean k row) ?_
      show Rn (fun k => bprobe_Mean k row) _
      unfold bprobe_Mean
      have := lookV_ev row (by omega)
      rw [hk] at this
      exact Rn.bind this (Rn.t (by decide) (Rn.pure _))
    exact Rn.bind hs (Rn.bind hm (Rn.t (by simp [h0]) (Rn.t (by decide) (Rn.pure _))))
  have hk : lookV row = 0 := by unfold lookV; rw [ho, if_neg (by decide), if_neg h0]
  have hs := span_ev row (by omega)
  rw [if_pos hk] at hs
  obtain ⟨s, p, t, r, m1, m2, m3, m4, m5, m6⟩ := mean_ev row (by omega) hk
  have hne : row ≠ [] := fun e => h0 (by rw [e]; rfl)
  obtain ⟨a1, a2⟩ := minL_spec hne
  obtain ⟨b1, b2⟩ := maxL_spec hne
  have oa := m6 _ a1
  have ob := m6 _ b1
  unfold okV at oa ob
  have hlp := pspan_loop (minL row) (maxL row) 0 0 row (by omega) a2 b2 s p t r row.length 0 (by omega)
  rw [decide_eq_true a1, decide_eq_true b1] at hlp
  refine Rn.bind hs (Rn.bind m1 (Rn.f (by simpa using h0) (Rn.bind hlp.diag ?_)))
  obtain ⟨l1, c1, c2, c3⟩ := limbOf_ev (minL row) (by omega)
  obtain ⟨o1, d1, d2, d3⟩ := limbOf_ev 1 (by omega)
  obtain ⟨l2, e1, e2, e3⟩ := limbOf_ev (maxL row) (by omega)
  have f1 := ratCmp_ev m2 (int_fr _ c2 d2) (by omega) (by omega) (by omega) (by omega)
  have f2 := ratCmp_ev m2 (int_fr _ e2 d2) (by omega) (by omega) (by omega) (by omega)
  rw [cmp_int _ _ _ (by omega)] at f1 f2
  have g1 := sum_ge _ row a2
  have g2 := sum_le _ row b2
  have k1 : cmpZ row.sum (minL row * (row.length : Int)) ≥ 0 := by
    unfold cmpZ
    rw [if_neg (by omega)]
    split <;> omega
  have k2 : cmpZ row.sum (maxL row * (row.length : Int)) ≤ 0 := by
    unfold cmpZ
    split
    · omega
    · split <;> omega
  show Rn (fun k => Option.bind (Flimb_Of k (minL row)) _) _
  refine Rn.bind c1 (Rn.bind d1 (Rn.bind f1 ?_))
  show Rn (fun k => Option.bind (Flimb_Of k (maxL row)) _) _
  refine Rn.bind e1 (Rn.bind d1 (Rn.bind f2 (Rn.t (show (IntKind.i64.wrap (IntKind.i64.wrap (IntKind.i64.wrap ((0 : Int) + 0) + 0) + 0) == 0) = true by decide) (Rn.t rfl (Rn.t rfl (Rn.t (decide_eq_true k1) (Rn.const (congrArg some (decide_eq_true k2)))))))))
theorem pure_ProbeSpan (row : List Int) (w : Wfd (.sl (.int .i64)) row) : ∃ k, Fshuntlaw20_ProbeSpan k row = some true := by
  have h := w.1.2
  simp only [Cd.by, reachBytes] at h
  obtain ⟨K, h⟩ := span_law row (by omega)
  exact ⟨K, h K (Nat.le_refl _)⟩
end Go.Proofs.YtlnailgfialgnaaGreatDoor.Am

/- The law ProbeSpan returns true for every input, and its arguments read as they did. -/
namespace Go.Proofs.YtlnailgfialgnaaGreatDoor.probeSpan
open Go.ChangeShapes Go.WideShapes Go.ChangeAt Go.RowKit
open Go.Proofs.YtlnailgfialgnaaGreatDoor.Am
set_option linter.unusedVariables false
theorem own : ownKnob Tryz.prog.godebug = none := by kernel_rfl
theorem laidOut : laidOutB Tryz.prog = true := by kernel_rfl
set_option maxRecDepth 100000 in
theorem lifted (os : Os) (started : os.Started) (H : Type) (enc : TypeId × Value → H) :
    ReturnsInHanded {} Tryz.checked os 8 .any (fun w args => (Rows.probeSpanSpec.pre enc Tryz.prog Tryz.f8 Rows.probeSpanRow.domain false w args ∧ laidMetH Tryz.prog Rows.probeSpanRow.laid w) ∧ sizedMet enc Tryz.prog Tryz.f8 (OpenSpec.ofChange Rows.probeSpanSpec) false w args) (Rows.probeSpanSpec.post enc Tryz.prog Tryz.f8 false true false false) := by
  refine returnsInHanded_of_change_and (C := Tryz.checked) (X := fun w _ => laidMetH Tryz.prog Rows.probeSpanRow.laid w) (fun _ _ _ hh h => h.of_heap hh) own started (by kernel_rfl) Tryz.func8
    (ChangeSpec.witness_shaped (enc := enc) (C := Tryz.checked) (os := os) (X := fun w _ => laidMetH Tryz.prog Rows.probeSpanRow.laid w) false (World.laidAll Tryz.prog os Rows.probeSpanRow.laid) #[.slice none 0 0] 8 (World.laidAll_os _ _ _)
      (World.shaped_of_ZipB (by kernel_rfl) (by kernel_rfl)) (by kernel_rfl) (by kernel_rfl) (by kernel_rfl)
      (by rw [MakeChecks.laidMetH_plain _ _ _ (by kernel_rfl)]; exact laidMet_laidAll _ (by kernel_rfl) (by kernel_rfl))) ?_
  intro W base args ds gs before hval0 hW hcnd hsz0 hL _
  have hval : ∀ (j : Nat) t v, Tryz.f8.params[j]? = some t → args[j]? = some v → Value.okWide Tryz.prog W .any base t v := hval0
  have hW' := hW
  obtain ⟨p, q, hA0, hV, rfl, hfz, hnd⟩ := hW
  have hA : DataW.TrodAll enc Tryz.prog W 0 (fun _ => true) true Tryz.f8.params.toList args.toList ds p := hA0
  rw [Tryz.params8] at hA hval
  obtain ⟨v0, vs0, d0, ds0, p0, q0, hargs, rfl, rfl, h0, r0⟩ := trodAll_cons hA
  obtain ⟨rfl, rfl, rfl⟩ := trodAll_nil r0
  obtain rfl : args = #[v0] := by cases args; simp_all
  obtain ⟨rfl, rfl⟩ := trodVars_none hV
  rw [Tryz.params8] at hsz0
  obtain ⟨hz0, hs0⟩ := sized_cons hsz0
  have lt0 : ∀ x ∈ p0, x.block < W.heap.size := by obtain ⟨m, hm⟩ := h0; exact DataW.trod_lt m _ _ _ hm
  obtain ⟨y0, rv0, nm0, wf0⟩ := open_cd (d := 9) (c := (.sl (.int .i64))) false (by kernel_rfl) (by kernel_rfl) (by kernel_rfl) (hval 0 51 v0 rfl rfl) h0 hz0
  clear hA0 hval0
  obtain ⟨k, hk⟩ := pure_ProbeSpan y0 wf0
  refine (law_inst cfg_ok (okq73 k) (x := y0) (y := true) hk rfl (args := [argV false (.sl (.int .i64)) y0]) rfl (rvs_cons rv0 rvs_nil) (names_cons nm0 rfl)).mono fun e W' ⟨he, bel⟩ => ?_
  subst he
  exact ⟨_, rfl, _, _, _, [], _, [], hW', trodAll_mk1 (shut_bool Tryz.underlying4 _), (trodAll_cons_mk (Below.trod laidOut (by kernel_rfl) (of_decide_eq_true (by kernel_rfl)) h0 bel lt0) trodAll_mk0), rfl, bel.frame _, fun h => by cases h⟩
theorem over : Rows.probeSpanRow.holds Tryz.pinned (OpenSpec.ofChange Rows.probeSpanSpec) :=
  OpenClaim.holds_of_wide 8 Tryz.f8 rfl rfl rfl rfl rfl rfl rfl ⟨rfl, rfl, rfl, rfl, rfl⟩ rfl rfl rfl rfl rfl (by kernel_rfl) Tryz.func8 (by kernel_rfl)
    (of_decide_eq_true (by kernel_rfl)) (by unfold Func.isWrapper; first | (rw [if_pos (by decide +kernel)]; kernel_rfl) | (rw [if_neg (by decide +kernel)]; exact ⟨rfl, rfl⟩))
    (fun os started H enc _ => lifted os started H enc)
theorem proved : Rows.ProbeSpanCardSaid :=
  Claim7.holds_tied_plain_at .later [] [.data, .pinned] true (true, "5ef3c3c07872d3be35a3a3883e7086d69564e098e6bb63972530fc0361de80e0") false over (fun _ h => by cases h) (by kernel_rfl) (fun _ h => by cases h) probeSpan_row_tie rfl ⟨rfl, rfl⟩ (by kernel_rfl) rfl
    (fun f fn hf hfn => by
      obtain rfl : f = 8 := Option.some.inj ((show Tryz.prog.funcNamed "shunt/shuntlaw20.ProbeSpan" = some 8 by kernel_rfl).symm.trans hf) |>.symm
      obtain rfl : fn = Tryz.f8 := (Option.some.inj (Tryz.func8.symm.trans hfn)).symm
      exact ⟨by kernel_rfl, fun j t ht => by
        rw [Tryz.params8] at ht
        have hm : t ∈ [51] := by simpa using Array.mem_of_getElem? ht
        have hall : ([51].all fun u => !Tryz.prog.wantsStandIn u) = true := by kernel_rfl
        exact (show Tryz.prog.wantsStandIn t = false by simpa using List.all_eq_true.1 hall t hm)⟩)
    (by kernel_rfl)
#print axioms proved
end Go.Proofs.YtlnailgfialgnaaGreatDoor.probeSpan
namespace Go.Proofs.YtlnailgfialgnaaGreatDoor
/-- The row, under a short name, for the claim. -/
theorem probeSpan_holds : Rows.ProbeSpanCardSaid := probeSpan.proved
end Go.Proofs.YtlnailgfialgnaaGreatDoor
