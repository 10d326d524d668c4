/-
  SecFlows: 10 of the cases, run.
-/
import Derived.Test.YtfmdgjnjfmgbmaaGreatDoorSecFlows0
namespace Go.Abs.SeatC
open Go Go.Abs Go.Proofs
set_option maxRecDepth 100000
theorem fr_20_9 : isOk (flowP 20 9) = true := by kernel_rfl
theorem fl_20_9 : isYes (flowP 20 9) (flowT 19 9) = true := by kernel_rfl
theorem fr_19_15 : isOk (flowP 19 15) = true := by kernel_rfl
theorem fl_19_15 : isYes (flowP 19 15) (flowT 18 15) = true := by kernel_rfl
theorem fr_17_7 : isOk (flowP 17 7) = true := by kernel_rfl
theorem fl_17_7 : isYes (flowP 17 7) (flowT 16 7) = true := by kernel_rfl
theorem fr_16_1 : isOk (flowP 16 1) = true := by kernel_rfl
theorem fl_16_1 : isYes (flowP 16 1) (flowT 15 1) = true := by kernel_rfl
theorem fr_15_3 : isOk (flowP 15 3) = true := by kernel_rfl
theorem fl_15_3 : isYes (flowP 15 3) (flowT 14 3) = true := by kernel_rfl
theorem fr_13_5 : isOk (flowP 13 5) = true := by kernel_rfl
theorem fl_13_5 : isYes (flowP 13 5) (flowT 12 5) = true := by kernel_rfl
theorem fr_11_0 : isOk (flowP 11 0) = true := by kernel_rfl
theorem fl_11_0 : isYes (flowP 11 0) (flowT 10 0) = true := by kernel_rfl
theorem fr_10_6 : isOk (flowP 10 6) = true := by kernel_rfl
theorem fl_10_6 : isYes (flowP 10 6) (flowT 9 6) = true := by kernel_rfl
theorem fr_5_1 : isOk (flowP 5 1) = true := by kernel_rfl
theorem fl_5_1 : isYes (flowP 5 1) (flowT 4 1) = true := by kernel_rfl
theorem fr_4_1 : isOk (flowP 4 1) = true := by kernel_rfl
theorem fl_4_1 : isYes (flowP 4 1) (flowT 3 1) = true := by kernel_rfl
end Go.Abs.SeatC
