/- Closed facts of the row on forwarding (second part). Conditions: none. -/
import Derived.Test.YtfaeabhbeolpgaaGreatDoorRows
import Derived.JoinedOf
import Derived.ProofKit
set_option linter.all false
noncomputable section
set_option maxRecDepth 100000
namespace Go.Proofs.YtfaeabhbeolpgaaGreatDoor
open Go
theorem jf9 : (Rows.gatewayForwardingRow.inPlace == Tryz.prog.inPlace 3) = true := by kernel_rfl
theorem jf11 : (Rows.gatewayForwardingRow.recurses == Tryz.prog.recurses 3) = true := by kernel_rfl
theorem jf12 : (Rows.gatewayForwardingRow.named == Tryz.prog.varsNamed 3) = true := by kernel_rfl
theorem jf19 : Tryz.f3.resultTypes.all (fun t => Tryz.prog.readableRec t && decide (t < Tryz.prog.types.size)) = true := by kernel_rfl
theorem jf20 : (Rows.gatewayForwardingRow.ifacesOut == Tryz.f3.resultTypes.toList.any (Tryz.prog.ifacesRec ·)) = true := by kernel_rfl
theorem jf21 : (Rows.gatewayForwardingRow.loopsOut == Tryz.f3.resultTypes.toList.any (Tryz.prog.loopsFrom ·)) = true := by kernel_rfl
theorem jf22 : (Rows.gatewayForwardingRow.plainKeys == Tryz.prog.plainKeys) = true := by kernel_rfl
theorem jf23 : Rows.gatewayForwardingRow.shortTexts.isNone = true := by kernel_rfl
theorem jf24 : Tryz.prog.stopsHeard = true := by kernel_rfl
theorem jf25 : Tryz.prog.mayEnter = true := by kernel_rfl
theorem jf26 : (Rows.gatewayForwardingRow.lifted == Tryz.prog.liftsFinal) = true := by kernel_rfl
theorem jf27 : (Tryz.prog.make == some Rows.gatewayForwardingRow.make) = true := by kernel_rfl
theorem jf28 : (Rows.gatewayForwardingRow.kinds == (if Rows.gatewayForwardingRow.domain.isEmpty then [] else Tryz.f3.params.toList.map fun t => match Tryz.prog.underlying t with | some (.int k) => some k | _ => none)) = true := by kernel_rfl
theorem jf29 : (Rows.gatewayForwardingRow.pinned == Rows.gatewayForwardingRow.pinnedBy) = true := by kernel_rfl
theorem jf30 : (Rows.gatewayForwardingRow.veiled == (Tryz.f3.params.toList ++ Rows.gatewayForwardingSpec.plain.varTypes Tryz.prog ++ Tryz.f3.resultTypes.toList).any (Tryz.prog.veiledRec ·)) = true := by kernel_rfl
theorem jf31 : Rows.gatewayForwardingRow.veiledFits Tryz.prog Tryz.f3.params.toList (Tryz.f3.params.toList ++ Rows.gatewayForwardingSpec.plain.varTypes Tryz.prog ++ Tryz.f3.resultTypes.toList) = true := by kernel_rfl
theorem jfInst : Tryz.f3.isInstance Tryz.prog Rows.gatewayForwardingRow.origin Rows.gatewayForwardingRow.targs := of_decide_eq_true (by kernel_rfl)
theorem jfWrap : Tryz.f3.isWrapper Tryz.prog Rows.gatewayForwardingRow.wrapper Rows.gatewayForwardingRow.mainSum := by
  unfold Func.isWrapper; first | (rw [if_pos (by decide +kernel)]; kernel_rfl) | (rw [if_neg (by decide +kernel)]; exact ⟨rfl, rfl⟩)
theorem jfNamed : Tryz.prog.funcNamed "univocal/univocallaw33.GatewayForwarding" = some 3 := by kernel_rfl
end Go.Proofs.YtfaeabhbeolpgaaGreatDoor
end
