/- Closed facts of the row on forwarding (first part). Conditions: none. -/
import Derived.Test.YtfaeabhbeolpgaaGreatDoorRows
import Derived.JoinedOf
import Derived.ProofKit
set_option linter.all false
noncomputable section
set_option maxRecDepth 100000
namespace Go.Proofs.YtfaeabhbeolpgaaGreatDoor
open Go
theorem jf0 : Rows.gatewayForwardingRow.wf (OpenSpec.ofChange Rows.gatewayForwardingSpec) = true := by kernel_rfl
theorem jf1 : laidOutB Tryz.prog = true := by kernel_rfl
theorem jf2 : mapsRowed Tryz.prog = true := by kernel_rfl
theorem jf3 : Tryz.f3.params.all (Tryz.prog.readableRec ·) = true := by kernel_rfl
theorem jf4 : namedTie Tryz.prog Rows.gatewayForwardingRow.named Rows.gatewayForwardingSpec.vars = true := by kernel_rfl
theorem jf5 : (Rows.gatewayForwardingRow.stops == []) = true := by kernel_rfl
theorem jf6 : (Tryz.prog.stops == []) = true := by kernel_rfl
theorem jf7 : (Rows.gatewayForwardingRow.knobs == []) = true := by kernel_rfl
theorem jf8 : (Tryz.prog.stopKnobs == []) = true := by kernel_rfl
theorem jf10 : (Rows.gatewayForwardingRow.unfollowed == Tryz.prog.unfollowed 3) = true := by kernel_rfl
theorem jf13 : (Rows.gatewayForwardingRow.maps == (Tryz.f3.params.toList ++ Rows.gatewayForwardingSpec.plain.varTypes Tryz.prog).any (Tryz.prog.mapsRec ·)) = true := by kernel_rfl
theorem jf14 : (Rows.gatewayForwardingRow.ifaces == (Tryz.f3.params.toList ++ Rows.gatewayForwardingSpec.plain.varTypes Tryz.prog).any (Tryz.prog.ifacesRec ·)) = true := by kernel_rfl
theorem jf15 : (Rows.gatewayForwardingRow.mapsOut == Tryz.prog.mapsAmong Tryz.f3.resultTypes.toList) = true := by kernel_rfl
theorem jf16 : (Rows.gatewayForwardingRow.loops == (Tryz.f3.params.toList ++ Rows.gatewayForwardingSpec.plain.varTypes Tryz.prog).any (Tryz.prog.loopsFrom ·)) = true := by kernel_rfl
theorem jf17 : (Rows.gatewayForwardingRow.wideKeys == (Tryz.f3.params.toList ++ Rows.gatewayForwardingSpec.plain.varTypes Tryz.prog ++ Tryz.f3.resultTypes.toList).any (Tryz.prog.wideKeysFrom ·)) = true := by kernel_rfl
theorem jf18 : Rows.gatewayForwardingSpec.vars.all (Tryz.prog.varReadable ·) = true := by kernel_rfl
end Go.Proofs.YtfaeabhbeolpgaaGreatDoor
end
