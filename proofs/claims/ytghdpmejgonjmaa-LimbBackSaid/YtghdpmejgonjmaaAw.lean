/- The fixed fact that every law asks first. -/
import Derived.Test.YtghdpmejgonjmaaPlV
import Derived.Test.YtghdpmejgonjmaaP01
namespace Go.Proofs.Ytghdpmejgonjmaa.Am
theorem awake_eq (j : Nat) : Fshuntlaw01_awake (j + 60) = some true := by kernel_rfl
theorem awake_ev : Rn (fun k => Fshuntlaw01_awake k) true := Rn.eq 60 fun k hk => by
  obtain ⟨j, rfl⟩ : ∃ j, k = j + 60 := ⟨k - 60, by omega⟩
  exact awake_eq j
end Go.Proofs.Ytghdpmejgonjmaa.Am
