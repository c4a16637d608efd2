/- The law SparseOf returns true for every input, and its arguments read as they did. -/
import Derived.Test.YtgiamleohegjeaaMSparseOf1
import Derived.Test.YtgiamleohegjeaaRows
import Derived.WalkKit
import Derived.ProofKit
import Derived.OpenShut
import Derived.ShutString
import Derived.ChangeOld
import Derived.Below
import Derived.SizedLaws
import Derived.Carry

namespace Go.Proofs.Ytgiamleohegjeaa.sparseOf
open Go.ChangeShapes Go.WideShapes Go.ChangeAt Go.RowKit
open Go.Proofs.Ytgiamleohegjeaa.Am
set_option linter.unusedVariables false
theorem own : ownKnob Try.prog.godebug = none := by kernel_rfl
theorem laidOut : laidOutB Try.prog = true := by kernel_rfl
set_option maxRecDepth 100000 in
theorem lifted (os : Os) (started : os.Started) (H : Type) (enc : TypeId × Value → H) :
    ReturnsInHanded {} Try.checked os 9 .any (Rows.sparseOfSpec.pre6 enc Try.prog Try.f9 Rows.sparseOfRow.domain false) (Rows.sparseOfSpec.post enc Try.prog Try.f9 false true false false) := by
  refine returnsInHanded_of_change_sized (C := Try.checked) own started (by kernel_rfl) Try.func9
    (ChangeSpec.witness6 (enc := enc) (C := Try.checked) false ⟨#[], #[.agg #[.slice none 0 0]], []⟩ 8 (by kernel_rfl) (by kernel_rfl) (by kernel_rfl) (by kernel_rfl)) ?_
  intro W base args ds gs before hval0 hW hcnd hsz0 _
  have hval : ∀ (j : Nat) t v, Try.f9.params[j]? = some t → args[j]? = some v → Value.okWide Try.prog W .any base t v := hval0
  have hW' := hW
  obtain ⟨p, q, hA0, hV, rfl, hfz, hnd⟩ := hW
  have hA : DataW.TrodAll enc Try.prog W 0 (fun _ => true) true Try.f9.params.toList args.toList ds p := hA0
  rw [Try.params9] at hA hval
  obtain ⟨v0, vs0, d0, ds0, p0, q0, hargs, rfl, rfl, h0, r0⟩ := trodAll_cons hA
  obtain ⟨rfl, rfl, rfl⟩ := trodAll_nil r0
  obtain rfl : args = #[v0] := by cases args; simp_all
  obtain ⟨rfl, rfl⟩ := trodVars_none hV
  rw [Try.params9] at hsz0
  obtain ⟨hz0, hs0⟩ := sized_cons hsz0
  have lt0 : ∀ x ∈ p0, x.block < W.heap.size := by obtain ⟨m, hm⟩ := h0; exact DataW.trod_lt m _ _ _ hm
  obtain ⟨y0, rv0, nm0, wf0⟩ := open_cd (d := 9) (c := (.sl (.pr (.pr .bool (.sl (.int .u32))) (.pr (.sl (.pr (.int .i64) (.pr .bool (.sl (.int .u32))))) (.pr (.sl (.pr (.int .i64) (.pr .bool (.sl (.int .u32))))) (.pr (.sl (.pr (.int .i64) (.pr .bool (.sl (.int .u32))))) (.pr .bool (.sl (.int .u32))))))))) true (by kernel_rfl) (by kernel_rfl) (by kernel_rfl) (hval 0 59 v0 rfl rfl) h0 hz0
  clear hA0 hval0
  obtain ⟨k, hk⟩ := pure_SparseOf y0 wf0
  refine (law_inst cfg_ok (okshuntlaw13_SparseOf k) (x := y0) (y := true) hk rfl (args := [argV true (.sl (.pr (.pr .bool (.sl (.int .u32))) (.pr (.sl (.pr (.int .i64) (.pr .bool (.sl (.int .u32))))) (.pr (.sl (.pr (.int .i64) (.pr .bool (.sl (.int .u32))))) (.pr (.sl (.pr (.int .i64) (.pr .bool (.sl (.int .u32))))) (.pr .bool (.sl (.int .u32)))))))) y0]) rfl (rvs_cons rv0 rvs_nil) (names_cons nm0 rfl)).mono fun e W' ⟨he, bel⟩ => ?_
  subst he
  exact ⟨_, rfl, _, _, _, [], _, [], hW', trodAll_mk1 (shut_bool Try.underlying4 _), (trodAll_cons_mk (Below.trod laidOut (by kernel_rfl) (of_decide_eq_true (by kernel_rfl)) h0 bel lt0) trodAll_mk0), rfl, bel.frame _, fun h => by cases h⟩
theorem over : Rows.sparseOfRow.holds Try.pinned (OpenSpec.ofChange Rows.sparseOfSpec) :=
  OpenClaim.holds_of_wide 9 Try.f9 rfl rfl rfl rfl rfl rfl rfl ⟨rfl, rfl, rfl, rfl, rfl⟩ rfl rfl rfl rfl rfl (by kernel_rfl) Try.func9 (by kernel_rfl)
    (of_decide_eq_true (by kernel_rfl)) (by unfold Func.isWrapper; first | (rw [if_pos (by decide +kernel)]; kernel_rfl) | (rw [if_neg (by decide +kernel)]; exact ⟨rfl, rfl⟩))
    (fun os started H enc _ => lifted os started H enc)
theorem proved : Rows.SparseOfSaid := over
#print axioms proved
end Go.Proofs.Ytgiamleohegjeaa.sparseOf
namespace Go.Proofs.Ytgiamleohegjeaa
/-- The row, under a short name, for the claim. -/
theorem sparseOf_holds : Rows.SparseOfSaid := sparseOf.proved
end Go.Proofs.Ytgiamleohegjeaa
