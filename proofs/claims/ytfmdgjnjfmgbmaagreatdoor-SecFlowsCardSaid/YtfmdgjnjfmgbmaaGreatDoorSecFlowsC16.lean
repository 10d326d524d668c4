/-
  SecFlows: 9 of the cases, run.
-/
import Derived.Test.YtfmdgjnjfmgbmaaGreatDoorSecFlows0
namespace Go.Abs.SeatC
open Go Go.Abs Go.Proofs
set_option maxRecDepth 100000
theorem fr_20_14 : isOk (flowP 20 14) = true := by kernel_rfl
theorem fl_20_14 : isYes (flowP 20 14) (flowT 19 14) = true := by kernel_rfl
theorem fr_18_0 : isOk (flowP 18 0) = true := by kernel_rfl
theorem fl_18_0 : isYes (flowP 18 0) (flowT 17 0) = true := by kernel_rfl
theorem fr_18_7 : isOk (flowP 18 7) = true := by kernel_rfl
theorem fl_18_7 : isYes (flowP 18 7) (flowT 17 7) = true := by kernel_rfl
theorem fr_16_6 : isOk (flowP 16 6) = true := by kernel_rfl
theorem fl_16_6 : isYes (flowP 16 6) (flowT 15 6) = true := by kernel_rfl
theorem fr_15_8 : isOk (flowP 15 8) = true := by kernel_rfl
theorem fl_15_8 : isYes (flowP 15 8) (flowT 14 8) = true := by kernel_rfl
theorem fr_13_10 : isOk (flowP 13 10) = true := by kernel_rfl
theorem fl_13_10 : isYes (flowP 13 10) (flowT 12 10) = true := by kernel_rfl
theorem fr_11_5 : isOk (flowP 11 5) = true := by kernel_rfl
theorem fl_11_5 : isYes (flowP 11 5) (flowT 10 5) = true := by kernel_rfl
theorem fr_9_0 : isOk (flowP 9 0) = true := by kernel_rfl
theorem fl_9_0 : isYes (flowP 9 0) (flowT 8 0) = true := by kernel_rfl
theorem fr_7_3 : isOk (flowP 7 3) = true := by kernel_rfl
theorem fl_7_3 : isYes (flowP 7 3) (flowT 6 3) = true := by kernel_rfl
end Go.Abs.SeatC
