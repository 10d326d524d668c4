/-
  SecFlows: 9 of the cases, run.
-/
import Derived.Test.YtfmdgjnjfmgbmaaGreatDoorSecFlows0
namespace Go.Abs.SeatC
open Go Go.Abs Go.Proofs
set_option maxRecDepth 100000
theorem fr_20_4 : isOk (flowP 20 4) = true := by kernel_rfl
theorem fl_20_4 : isYes (flowP 20 4) (flowT 19 4) = true := by kernel_rfl
theorem fr_19_10 : isOk (flowP 19 10) = true := by kernel_rfl
theorem fl_19_10 : isYes (flowP 19 10) (flowT 18 10) = true := by kernel_rfl
theorem fr_17_2 : isOk (flowP 17 2) = true := by kernel_rfl
theorem fl_17_2 : isYes (flowP 17 2) (flowT 16 2) = true := by kernel_rfl
theorem fr_17_14 : isOk (flowP 17 14) = true := by kernel_rfl
theorem fl_17_14 : isYes (flowP 17 14) (flowT 16 14) = true := by kernel_rfl
theorem fr_14_5 : isOk (flowP 14 5) = true := by kernel_rfl
theorem fl_14_5 : isYes (flowP 14 5) (flowT 13 5) = true := by kernel_rfl
theorem fr_13_0 : isOk (flowP 13 0) = true := by kernel_rfl
theorem fl_13_0 : isYes (flowP 13 0) (flowT 12 0) = true := by kernel_rfl
theorem fr_12_8 : isOk (flowP 12 8) = true := by kernel_rfl
theorem fl_12_8 : isYes (flowP 12 8) (flowT 11 8) = true := by kernel_rfl
theorem fr_8_1 : isOk (flowP 8 1) = true := by kernel_rfl
theorem fl_8_1 : isYes (flowP 8 1) (flowT 7 1) = true := by kernel_rfl
theorem fr_8_7 : isOk (flowP 8 7) = true := by kernel_rfl
theorem fl_8_7 : isYes (flowP 8 7) (flowT 7 7) = true := by kernel_rfl
end Go.Abs.SeatC
