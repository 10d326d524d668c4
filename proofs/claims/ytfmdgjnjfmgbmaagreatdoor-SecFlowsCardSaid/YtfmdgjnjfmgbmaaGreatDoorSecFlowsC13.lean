/-
  SecFlows: 10 of the cases, run.
-/
import Derived.Test.YtfmdgjnjfmgbmaaGreatDoorSecFlows0
namespace Go.Abs.SeatC
open Go Go.Abs Go.Proofs
set_option maxRecDepth 100000
theorem fr_20_11 : isOk (flowP 20 11) = true := by kernel_rfl
theorem fl_20_11 : isYes (flowP 20 11) (flowT 19 11) = true := by kernel_rfl
theorem fr_19_17 : isOk (flowP 19 17) = true := by kernel_rfl
theorem fl_19_17 : isYes (flowP 19 17) (flowT 18 17) = true := by kernel_rfl
theorem fr_17_9 : isOk (flowP 17 9) = true := by kernel_rfl
theorem fl_17_9 : isYes (flowP 17 9) (flowT 16 9) = true := by kernel_rfl
theorem fr_16_3 : isOk (flowP 16 3) = true := by kernel_rfl
theorem fl_16_3 : isYes (flowP 16 3) (flowT 15 3) = true := by kernel_rfl
theorem fr_15_5 : isOk (flowP 15 5) = true := by kernel_rfl
theorem fl_15_5 : isYes (flowP 15 5) (flowT 14 5) = true := by kernel_rfl
theorem fr_13_7 : isOk (flowP 13 7) = true := by kernel_rfl
theorem fl_13_7 : isYes (flowP 13 7) (flowT 12 7) = true := by kernel_rfl
theorem fr_11_2 : isOk (flowP 11 2) = true := by kernel_rfl
theorem fl_11_2 : isYes (flowP 11 2) (flowT 10 2) = true := by kernel_rfl
theorem fr_10_8 : isOk (flowP 10 8) = true := by kernel_rfl
theorem fl_10_8 : isYes (flowP 10 8) (flowT 9 8) = true := by kernel_rfl
theorem fr_5_3 : isOk (flowP 5 3) = true := by kernel_rfl
theorem fl_5_3 : isYes (flowP 5 3) (flowT 4 3) = true := by kernel_rfl
theorem fr_4_3 : isOk (flowP 4 3) = true := by kernel_rfl
theorem fl_4_3 : isYes (flowP 4 3) (flowT 3 3) = true := by kernel_rfl
end Go.Abs.SeatC
