/-
  SecFlows: 10 of the cases, run.
-/
import Derived.Test.YtfmdgjnjfmgbmaaGreatDoorSecFlows0
namespace Go.Abs.SeatC
open Go Go.Abs Go.Proofs
set_option maxRecDepth 100000
theorem fr_19_1 : isOk (flowP 19 1) = true := by kernel_rfl
theorem fl_19_1 : isYes (flowP 19 1) (flowT 18 1) = true := by kernel_rfl
theorem fr_19_4 : isOk (flowP 19 4) = true := by kernel_rfl
theorem fl_19_4 : isYes (flowP 19 4) (flowT 18 4) = true := by kernel_rfl
theorem fr_18_15 : isOk (flowP 18 15) = true := by kernel_rfl
theorem fl_18_15 : isYes (flowP 18 15) (flowT 17 15) = true := by kernel_rfl
theorem fr_16_14 : isOk (flowP 16 14) = true := by kernel_rfl
theorem fl_16_14 : isYes (flowP 16 14) (flowT 15 14) = true := by kernel_rfl
theorem fr_14_0 : isOk (flowP 14 0) = true := by kernel_rfl
theorem fl_14_0 : isYes (flowP 14 0) (flowT 13 0) = true := by kernel_rfl
theorem fr_14_9 : isOk (flowP 14 9) = true := by kernel_rfl
theorem fl_14_9 : isYes (flowP 14 9) (flowT 13 9) = true := by kernel_rfl
theorem fr_11_9 : isOk (flowP 11 9) = true := by kernel_rfl
theorem fl_11_9 : isYes (flowP 11 9) (flowT 10 9) = true := by kernel_rfl
theorem fr_9_8 : isOk (flowP 9 8) = true := by kernel_rfl
theorem fl_9_8 : isYes (flowP 9 8) (flowT 8 8) = true := by kernel_rfl
theorem fr_6_3 : isOk (flowP 6 3) = true := by kernel_rfl
theorem fl_6_3 : isYes (flowP 6 3) (flowT 5 3) = true := by kernel_rfl
theorem fr_2_0 : isOk (flowP 2 0) = true := by kernel_rfl
theorem fl_2_0 : isYes (flowP 2 0) (flowT 1 0) = true := by kernel_rfl
end Go.Abs.SeatC
