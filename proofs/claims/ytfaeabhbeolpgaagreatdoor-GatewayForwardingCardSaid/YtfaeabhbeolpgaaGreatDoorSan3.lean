/- The law's first part, run once in the kernel. Conditions: none. -/
import Derived.Test.YtfaeabhbeolpgaaGreatDoorRows
import Derived.KernelRfl
import Derived.Test.YtfaeabhbeolpgaaGreatDoorSan2
import Derived.Test.YtfaeabhbeolpgaaGreatDoorFm
set_option linter.all false
noncomputable section
set_option maxRecDepth 1000000
namespace Go.Proofs.YtfaeabhbeolpgaaGreatDoor
open Go Go.Am
noncomputable section
def mSan : Memo := ⟨4, [], .leaf, 0, .bool true⟩
theorem mSan_run : memoRun mSan (evO O3 ET 1000000) = true := by kernel_rfl
theorem mSan_wf : memoWf mSan = true := by kernel_rfl
theorem sanO_ok : OrcOK Tryz.prog G0 (memoO mSan) := memoO_ok hmix O3uok ET_ok (fun _ => rfl) mSan_run mSan_wf
end
end Go.Proofs.YtfaeabhbeolpgaaGreatDoor
end
