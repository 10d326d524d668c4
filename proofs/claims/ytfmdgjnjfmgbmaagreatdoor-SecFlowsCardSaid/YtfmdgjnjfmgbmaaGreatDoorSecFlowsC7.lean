/-
  SecFlows: 10 of the cases, run.
-/
import Derived.Test.YtfmdgjnjfmgbmaaGreatDoorSecFlows0
namespace Go.Abs.SeatC
open Go Go.Abs Go.Proofs
set_option maxRecDepth 100000
theorem fr_20_5 : isOk (flowP 20 5) = true := by kernel_rfl
theorem fl_20_5 : isYes (flowP 20 5) (flowT 19 5) = true := by kernel_rfl
theorem fr_19_11 : isOk (flowP 19 11) = true := by kernel_rfl
theorem fl_19_11 : isYes (flowP 19 11) (flowT 18 11) = true := by kernel_rfl
theorem fr_17_3 : isOk (flowP 17 3) = true := by kernel_rfl
theorem fl_17_3 : isYes (flowP 17 3) (flowT 16 3) = true := by kernel_rfl
theorem fr_17_15 : isOk (flowP 17 15) = true := by kernel_rfl
theorem fl_17_15 : isYes (flowP 17 15) (flowT 16 15) = true := by kernel_rfl
theorem fr_14_6 : isOk (flowP 14 6) = true := by kernel_rfl
theorem fl_14_6 : isYes (flowP 14 6) (flowT 13 6) = true := by kernel_rfl
theorem fr_13_1 : isOk (flowP 13 1) = true := by kernel_rfl
theorem fl_13_1 : isYes (flowP 13 1) (flowT 12 1) = true := by kernel_rfl
theorem fr_12_9 : isOk (flowP 12 9) = true := by kernel_rfl
theorem fl_12_9 : isYes (flowP 12 9) (flowT 11 9) = true := by kernel_rfl
theorem fr_8_2 : isOk (flowP 8 2) = true := by kernel_rfl
theorem fl_8_2 : isYes (flowP 8 2) (flowT 7 2) = true := by kernel_rfl
theorem fr_7_n : isOk (flowP 7 99) = true := by kernel_rfl
theorem fl_7_n : isYes (flowP 7 99) (flowN 6) = true := by kernel_rfl
theorem fr_1_0 : isOk (flowP 1 0) = true := by kernel_rfl
theorem fl_1_0 : isYes (flowP 1 0) (flowT 0 0) = true := by kernel_rfl
end Go.Abs.SeatC
