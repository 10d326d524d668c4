/-
  SecFlows: 9 of the cases, run.
-/
import Derived.Test.YtfmdgjnjfmgbmaaGreatDoorSecFlows0
namespace Go.Abs.SeatC
open Go Go.Abs Go.Proofs
set_option maxRecDepth 100000
theorem fr_20_15 : isOk (flowP 20 15) = true := by kernel_rfl
theorem fl_20_15 : isYes (flowP 20 15) (flowT 19 15) = true := by kernel_rfl
theorem fr_18_1 : isOk (flowP 18 1) = true := by kernel_rfl
theorem fl_18_1 : isYes (flowP 18 1) (flowT 17 1) = true := by kernel_rfl
theorem fr_18_8 : isOk (flowP 18 8) = true := by kernel_rfl
theorem fl_18_8 : isYes (flowP 18 8) (flowT 17 8) = true := by kernel_rfl
theorem fr_16_7 : isOk (flowP 16 7) = true := by kernel_rfl
theorem fl_16_7 : isYes (flowP 16 7) (flowT 15 7) = true := by kernel_rfl
theorem fr_15_9 : isOk (flowP 15 9) = true := by kernel_rfl
theorem fl_15_9 : isYes (flowP 15 9) (flowT 14 9) = true := by kernel_rfl
theorem fr_13_11 : isOk (flowP 13 11) = true := by kernel_rfl
theorem fl_13_11 : isYes (flowP 13 11) (flowT 12 11) = true := by kernel_rfl
theorem fr_11_6 : isOk (flowP 11 6) = true := by kernel_rfl
theorem fl_11_6 : isYes (flowP 11 6) (flowT 10 6) = true := by kernel_rfl
theorem fr_9_1 : isOk (flowP 9 1) = true := by kernel_rfl
theorem fl_9_1 : isYes (flowP 9 1) (flowT 8 1) = true := by kernel_rfl
theorem fr_7_4 : isOk (flowP 7 4) = true := by kernel_rfl
theorem fl_7_4 : isYes (flowP 7 4) (flowT 6 4) = true := by kernel_rfl
end Go.Abs.SeatC
