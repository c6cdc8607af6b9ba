/- The table of functions, no package-level variable looked at. Conditions: none. -/
import Derived.Test.YtfaeabhbeolpgaaGreatDoorRows
import Derived.KernelRfl
import Derived.Test.YtfaeabhbeolpgaaGreatDoorMb2
set_option linter.all false
noncomputable section
set_option maxRecDepth 1000000
namespace Go.Proofs.YtfaeabhbeolpgaaGreatDoor
open Go Go.Am
noncomputable section
noncomputable def G0 : Nat → Option Nat := fun _ => none
theorem hmix : Tryz.prog.follows .mixedOrders = true := by kernel_rfl
noncomputable def E0 : Nat → Option AFunc := tabE Tryz.prog G0
theorem E0uok : TableOK Tryz.prog G0 E0 := tabE_ok
end
end Go.Proofs.YtfaeabhbeolpgaaGreatDoor
end
