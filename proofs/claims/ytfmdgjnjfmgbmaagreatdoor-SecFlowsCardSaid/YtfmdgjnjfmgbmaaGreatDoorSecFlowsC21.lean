/-
  SecFlows: 10 of the cases, run.
-/
import Derived.Test.YtfmdgjnjfmgbmaaGreatDoorSecFlows0
namespace Go.Abs.SeatC
open Go Go.Abs Go.Proofs
set_option maxRecDepth 100000
theorem fr_20_19 : isOk (flowP 20 19) = true := by kernel_rfl
theorem fl_20_19 : isYes (flowP 20 19) (flowT 19 19) = true := by kernel_rfl
theorem fr_18_5 : isOk (flowP 18 5) = true := by kernel_rfl
theorem fl_18_5 : isYes (flowP 18 5) (flowT 17 5) = true := by kernel_rfl
theorem fr_18_12 : isOk (flowP 18 12) = true := by kernel_rfl
theorem fl_18_12 : isYes (flowP 18 12) (flowT 17 12) = true := by kernel_rfl
theorem fr_16_11 : isOk (flowP 16 11) = true := by kernel_rfl
theorem fl_16_11 : isYes (flowP 16 11) (flowT 15 11) = true := by kernel_rfl
theorem fr_15_13 : isOk (flowP 15 13) = true := by kernel_rfl
theorem fl_15_13 : isYes (flowP 15 13) (flowT 14 13) = true := by kernel_rfl
theorem fr_12_1 : isOk (flowP 12 1) = true := by kernel_rfl
theorem fl_12_1 : isYes (flowP 12 1) (flowT 11 1) = true := by kernel_rfl
theorem fr_12_5 : isOk (flowP 12 5) = true := by kernel_rfl
theorem fl_12_5 : isYes (flowP 12 5) (flowT 11 5) = true := by kernel_rfl
theorem fr_9_5 : isOk (flowP 9 5) = true := by kernel_rfl
theorem fl_9_5 : isYes (flowP 9 5) (flowT 8 5) = true := by kernel_rfl
theorem fr_6_0 : isOk (flowP 6 0) = true := by kernel_rfl
theorem fl_6_0 : isYes (flowP 6 0) (flowT 5 0) = true := by kernel_rfl
theorem fr_3_1 : isOk (flowP 3 1) = true := by kernel_rfl
theorem fl_3_1 : isYes (flowP 3 1) (flowT 2 1) = true := by kernel_rfl
end Go.Abs.SeatC
