/- The row's statement and the tied card of the law on forwarding. Conditions: those of the row. -/
import Derived.Test.YtfaeabhbeolpgaaGreatDoorPr1
import Derived.Test.YtfaeabhbeolpgaaGreatDoorFa1
import Derived.Test.YtfaeabhbeolpgaaGreatDoorFa2
import Derived.Test.YtfaeabhbeolpgaaGreatDoorCards
import Derived.Test.YtfaeabhbeolpgaaGreatDoorTie
import Derived.SevenTiedAt
set_option linter.all false
noncomputable section
set_option maxRecDepth 100000
namespace Go.Proofs.YtfaeabhbeolpgaaGreatDoor
open Go.ChangeShapes Go.WideShapes Go.ChangeAt Go.WideElems Go.RowKit Go.Am
noncomputable section

theorem and2 {a b : Bool} (h : a = true) (k : b = true) : (a && b) = true := by rw [h, k]; rfl
theorem jfAll : joinedFacts Tryz.prog 3 Tryz.f3 Rows.gatewayForwardingSpec Rows.gatewayForwardingRow = true := by
  unfold joinedFacts
  exact and2 (and2 (and2 (and2 (and2 (and2 (and2 (and2 (and2 (and2 (and2 (and2 (and2 (and2 (and2 (and2 (and2 (and2 (and2 (and2 (and2 (and2 (and2 (and2 (and2 (and2 (and2 (and2 (and2 (and2 (and2 jf0 jf1) jf2) jf3) jf4) jf5) jf6) jf7) jf8) jf9) jf10) jf11) jf12) jf13) jf14) jf15) jf16) jf17) jf18) jf19) jf20) jf21) jf22) jf23) jf24) jf25) jf26) jf27) jf28) jf29) jf30) jf31

theorem f_holds : Rows.GatewayForwardingSaid :=
  OpenClaim.holds_of_wide 3 Tryz.f3 rfl rfl rfl rfl rfl rfl rfl ⟨rfl, rfl, rfl, rfl, rfl⟩ rfl rfl rfl rfl rfl jfNamed Tryz.func3 jfAll jfInst jfWrap
    (fun os started H enc _ => lifted os started H enc)

theorem card_holds : Rows.GatewayForwardingCardSaid :=
  Claim7.holds_tied_plain_at .later [] [.data] true (true, "1b60b7d20290cb6b2b3b8bd14a236892247c7217c4d93744133a7c2b8704a41f") true
    f_holds (fun _ h => by cases h) (by kernel_rfl) (fun _ h => by cases h) gatewayForwarding_row_tie rfl ⟨rfl, rfl⟩ (by kernel_rfl) rfl
    (fun f fn hf hfn => by
      obtain rfl : f = 3 := Option.some.inj (jfNamed.symm.trans hf) |>.symm
      obtain rfl : fn = Tryz.f3 := (Option.some.inj (Tryz.func3.symm.trans hfn)).symm
      exact ⟨by kernel_rfl, fun j t ht => by
        rw [Tryz.params3] at ht
        rcases j with _ | _ | _ | j
        · obtain rfl : t = 26 := by simpa using ht.symm
          exact (show Tryz.prog.wantsStandIn 26 = false by kernel_rfl)
        · obtain rfl : t = 29 := by simpa using ht.symm
          exact (show Tryz.prog.wantsStandIn 29 = false by kernel_rfl)
        · obtain rfl : t = 30 := by simpa using ht.symm
          exact (show Tryz.prog.wantsStandIn 30 = false by kernel_rfl)
        · simp at ht⟩)
    (by kernel_rfl)
#print axioms card_holds
end
end Go.Proofs.YtfaeabhbeolpgaaGreatDoor
end
