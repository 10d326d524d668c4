/-
  SecFlows: 9 of the cases, run.
-/
import Derived.Test.YtfmdgjnjfmgbmaaGreatDoorSecFlows0
namespace Go.Abs.SeatC
open Go Go.Abs Go.Proofs
set_option maxRecDepth 100000
theorem fr_20_6 : isOk (flowP 20 6) = true := by kernel_rfl
theorem fl_20_6 : isYes (flowP 20 6) (flowT 19 6) = true := by kernel_rfl
theorem fr_19_12 : isOk (flowP 19 12) = true := by kernel_rfl
theorem fl_19_12 : isYes (flowP 19 12) (flowT 18 12) = true := by kernel_rfl
theorem fr_17_4 : isOk (flowP 17 4) = true := by kernel_rfl
theorem fl_17_4 : isYes (flowP 17 4) (flowT 16 4) = true := by kernel_rfl
theorem fr_17_16 : isOk (flowP 17 16) = true := by kernel_rfl
theorem fl_17_16 : isYes (flowP 17 16) (flowT 16 16) = true := by kernel_rfl
theorem fr_14_7 : isOk (flowP 14 7) = true := by kernel_rfl
theorem fl_14_7 : isYes (flowP 14 7) (flowT 13 7) = true := by kernel_rfl
theorem fr_13_2 : isOk (flowP 13 2) = true := by kernel_rfl
theorem fl_13_2 : isYes (flowP 13 2) (flowT 12 2) = true := by kernel_rfl
theorem fr_12_10 : isOk (flowP 12 10) = true := by kernel_rfl
theorem fl_12_10 : isYes (flowP 12 10) (flowT 11 10) = true := by kernel_rfl
theorem fr_8_3 : isOk (flowP 8 3) = true := by kernel_rfl
theorem fl_8_3 : isYes (flowP 8 3) (flowT 7 3) = true := by kernel_rfl
theorem fr_7_0 : isOk (flowP 7 0) = true := by kernel_rfl
theorem fl_7_0 : isYes (flowP 7 0) (flowT 6 0) = true := by kernel_rfl
end Go.Abs.SeatC
