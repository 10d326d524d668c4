/-
  SecFlows: 9 of the cases, run.
-/
import Derived.Test.YtfmdgjnjfmgbmaaGreatDoorSecFlows0
namespace Go.Abs.SeatC
open Go Go.Abs Go.Proofs
set_option maxRecDepth 100000
theorem fr_20_3 : isOk (flowP 20 3) = true := by kernel_rfl
theorem fl_20_3 : isYes (flowP 20 3) (flowT 19 3) = true := by kernel_rfl
theorem fr_19_9 : isOk (flowP 19 9) = true := by kernel_rfl
theorem fl_19_9 : isYes (flowP 19 9) (flowT 18 9) = true := by kernel_rfl
theorem fr_17_1 : isOk (flowP 17 1) = true := by kernel_rfl
theorem fl_17_1 : isYes (flowP 17 1) (flowT 16 1) = true := by kernel_rfl
theorem fr_17_13 : isOk (flowP 17 13) = true := by kernel_rfl
theorem fl_17_13 : isYes (flowP 17 13) (flowT 16 13) = true := by kernel_rfl
theorem fr_14_4 : isOk (flowP 14 4) = true := by kernel_rfl
theorem fl_14_4 : isYes (flowP 14 4) (flowT 13 4) = true := by kernel_rfl
theorem fr_13_n : isOk (flowP 13 99) = true := by kernel_rfl
theorem fl_13_n : isYes (flowP 13 99) (flowN 12) = true := by kernel_rfl
theorem fr_12_7 : isOk (flowP 12 7) = true := by kernel_rfl
theorem fl_12_7 : isYes (flowP 12 7) (flowT 11 7) = true := by kernel_rfl
theorem fr_8_0 : isOk (flowP 8 0) = true := by kernel_rfl
theorem fl_8_0 : isYes (flowP 8 0) (flowT 7 0) = true := by kernel_rfl
theorem fr_8_6 : isOk (flowP 8 6) = true := by kernel_rfl
theorem fl_8_6 : isYes (flowP 8 6) (flowT 7 6) = true := by kernel_rfl
end Go.Abs.SeatC
