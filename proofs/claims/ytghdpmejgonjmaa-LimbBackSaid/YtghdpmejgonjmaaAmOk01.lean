/- Layer 01: the tables are the program's. -/
import Derived.Test.YtghdpmejgonjmaaAmOk
import Derived.Test.YtghdpmejgonjmaaAmCfg01
import Derived.Test.YtghdpmejgonjmaaChecked
set_option linter.unusedVariables false
set_option maxRecDepth 100000
namespace Go.Proofs.Ytghdpmejgonjmaa.Am
open Go
theorem ty_ok : TyOk Try.prog Ty := by
  intro t i h
  unfold Ty at h
  split at h <;> first | (cases h; done) | (cases h; exact tok_of (by kernel_rfl))
theorem names : (Try.prog.funcs.toList.all fun fn => !(fn.name == "runtime.NumGoroutine")) = true := by kernel_rfl
theorem cfg_ok : CfgOk Try.prog cf :=
  { ty := ty_ok, fn := fun f fn e => names_ok names e, ext := (fun f g args rs e _ => by cases e), mo := by kernel_rfl }
end Go.Proofs.Ytghdpmejgonjmaa.Am
