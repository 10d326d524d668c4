/-
  SecFlows: 10 of the cases, run.
-/
import Derived.Test.YtfmdgjnjfmgbmaaGreatDoorSecFlows0
namespace Go.Abs.SeatC
open Go Go.Abs Go.Proofs
set_option maxRecDepth 100000
theorem fr_20_12 : isOk (flowP 20 12) = true := by kernel_rfl
theorem fl_20_12 : isYes (flowP 20 12) (flowT 19 12) = true := by kernel_rfl
theorem fr_19_18 : isOk (flowP 19 18) = true := by kernel_rfl
theorem fl_19_18 : isYes (flowP 19 18) (flowT 18 18) = true := by kernel_rfl
theorem fr_17_10 : isOk (flowP 17 10) = true := by kernel_rfl
theorem fl_17_10 : isYes (flowP 17 10) (flowT 16 10) = true := by kernel_rfl
theorem fr_16_4 : isOk (flowP 16 4) = true := by kernel_rfl
theorem fl_16_4 : isYes (flowP 16 4) (flowT 15 4) = true := by kernel_rfl
theorem fr_15_6 : isOk (flowP 15 6) = true := by kernel_rfl
theorem fl_15_6 : isYes (flowP 15 6) (flowT 14 6) = true := by kernel_rfl
theorem fr_13_8 : isOk (flowP 13 8) = true := by kernel_rfl
theorem fl_13_8 : isYes (flowP 13 8) (flowT 12 8) = true := by kernel_rfl
theorem fr_11_3 : isOk (flowP 11 3) = true := by kernel_rfl
theorem fl_11_3 : isYes (flowP 11 3) (flowT 10 3) = true := by kernel_rfl
theorem fr_10_9 : isOk (flowP 10 9) = true := by kernel_rfl
theorem fl_10_9 : isYes (flowP 10 9) (flowT 9 9) = true := by kernel_rfl
theorem fr_5_4 : isOk (flowP 5 4) = true := by kernel_rfl
theorem fl_5_4 : isYes (flowP 5 4) (flowT 4 4) = true := by kernel_rfl
theorem fr_3_n : isOk (flowP 3 99) = true := by kernel_rfl
theorem fl_3_n : isYes (flowP 3 99) (flowN 2) = true := by kernel_rfl
end Go.Abs.SeatC
