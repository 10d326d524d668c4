/-
  SecFlows: 9 of the cases, run.
-/
import Derived.Test.YtfmdgjnjfmgbmaaGreatDoorSecFlows0
namespace Go.Abs.SeatC
open Go Go.Abs Go.Proofs
set_option maxRecDepth 100000
theorem fr_20_16 : isOk (flowP 20 16) = true := by kernel_rfl
theorem fl_20_16 : isYes (flowP 20 16) (flowT 19 16) = true := by kernel_rfl
theorem fr_18_2 : isOk (flowP 18 2) = true := by kernel_rfl
theorem fl_18_2 : isYes (flowP 18 2) (flowT 17 2) = true := by kernel_rfl
theorem fr_18_9 : isOk (flowP 18 9) = true := by kernel_rfl
theorem fl_18_9 : isYes (flowP 18 9) (flowT 17 9) = true := by kernel_rfl
theorem fr_16_8 : isOk (flowP 16 8) = true := by kernel_rfl
theorem fl_16_8 : isYes (flowP 16 8) (flowT 15 8) = true := by kernel_rfl
theorem fr_15_10 : isOk (flowP 15 10) = true := by kernel_rfl
theorem fl_15_10 : isYes (flowP 15 10) (flowT 14 10) = true := by kernel_rfl
theorem fr_13_12 : isOk (flowP 13 12) = true := by kernel_rfl
theorem fl_13_12 : isYes (flowP 13 12) (flowT 12 12) = true := by kernel_rfl
theorem fr_11_7 : isOk (flowP 11 7) = true := by kernel_rfl
theorem fl_11_7 : isYes (flowP 11 7) (flowT 10 7) = true := by kernel_rfl
theorem fr_9_2 : isOk (flowP 9 2) = true := by kernel_rfl
theorem fl_9_2 : isYes (flowP 9 2) (flowT 8 2) = true := by kernel_rfl
theorem fr_7_5 : isOk (flowP 7 5) = true := by kernel_rfl
theorem fl_7_5 : isYes (flowP 7 5) (flowT 6 5) = true := by kernel_rfl
end Go.Abs.SeatC
