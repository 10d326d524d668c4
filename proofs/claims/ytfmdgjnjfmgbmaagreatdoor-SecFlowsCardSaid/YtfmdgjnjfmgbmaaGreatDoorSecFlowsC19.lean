/-
  SecFlows: 9 of the cases, run.
-/
import Derived.Test.YtfmdgjnjfmgbmaaGreatDoorSecFlows0
namespace Go.Abs.SeatC
open Go Go.Abs Go.Proofs
set_option maxRecDepth 100000
theorem fr_20_17 : isOk (flowP 20 17) = true := by kernel_rfl
theorem fl_20_17 : isYes (flowP 20 17) (flowT 19 17) = true := by kernel_rfl
theorem fr_18_3 : isOk (flowP 18 3) = true := by kernel_rfl
theorem fl_18_3 : isYes (flowP 18 3) (flowT 17 3) = true := by kernel_rfl
theorem fr_18_10 : isOk (flowP 18 10) = true := by kernel_rfl
theorem fl_18_10 : isYes (flowP 18 10) (flowT 17 10) = true := by kernel_rfl
theorem fr_16_9 : isOk (flowP 16 9) = true := by kernel_rfl
theorem fl_16_9 : isYes (flowP 16 9) (flowT 15 9) = true := by kernel_rfl
theorem fr_15_11 : isOk (flowP 15 11) = true := by kernel_rfl
theorem fl_15_11 : isYes (flowP 15 11) (flowT 14 11) = true := by kernel_rfl
theorem fr_12_n : isOk (flowP 12 99) = true := by kernel_rfl
theorem fl_12_n : isYes (flowP 12 99) (flowN 11) = true := by kernel_rfl
theorem fr_12_3 : isOk (flowP 12 3) = true := by kernel_rfl
theorem fl_12_3 : isYes (flowP 12 3) (flowT 11 3) = true := by kernel_rfl
theorem fr_9_3 : isOk (flowP 9 3) = true := by kernel_rfl
theorem fl_9_3 : isYes (flowP 9 3) (flowT 8 3) = true := by kernel_rfl
theorem fr_7_6 : isOk (flowP 7 6) = true := by kernel_rfl
theorem fl_7_6 : isYes (flowP 7 6) (flowT 6 6) = true := by kernel_rfl
end Go.Abs.SeatC
