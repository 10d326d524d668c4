/-
  SecFlows: 10 of the cases, run.
-/
import Derived.Test.YtfmdgjnjfmgbmaaGreatDoorSecFlows0
namespace Go.Abs.SeatC
open Go Go.Abs Go.Proofs
set_option maxRecDepth 100000
theorem fr_19_n : isOk (flowP 19 99) = true := by kernel_rfl
theorem fl_19_n : isYes (flowP 19 99) (flowN 18) = true := by kernel_rfl
theorem fr_19_2 : isOk (flowP 19 2) = true := by kernel_rfl
theorem fl_19_2 : isYes (flowP 19 2) (flowT 18 2) = true := by kernel_rfl
theorem fr_18_13 : isOk (flowP 18 13) = true := by kernel_rfl
theorem fl_18_13 : isYes (flowP 18 13) (flowT 17 13) = true := by kernel_rfl
theorem fr_16_12 : isOk (flowP 16 12) = true := by kernel_rfl
theorem fl_16_12 : isYes (flowP 16 12) (flowT 15 12) = true := by kernel_rfl
theorem fr_15_14 : isOk (flowP 15 14) = true := by kernel_rfl
theorem fl_15_14 : isYes (flowP 15 14) (flowT 14 14) = true := by kernel_rfl
theorem fr_12_2 : isOk (flowP 12 2) = true := by kernel_rfl
theorem fl_12_2 : isYes (flowP 12 2) (flowT 11 2) = true := by kernel_rfl
theorem fr_12_6 : isOk (flowP 12 6) = true := by kernel_rfl
theorem fl_12_6 : isYes (flowP 12 6) (flowT 11 6) = true := by kernel_rfl
theorem fr_9_6 : isOk (flowP 9 6) = true := by kernel_rfl
theorem fl_9_6 : isYes (flowP 9 6) (flowT 8 6) = true := by kernel_rfl
theorem fr_6_1 : isOk (flowP 6 1) = true := by kernel_rfl
theorem fl_6_1 : isYes (flowP 6 1) (flowT 5 1) = true := by kernel_rfl
theorem fr_3_2 : isOk (flowP 3 2) = true := by kernel_rfl
theorem fl_3_2 : isYes (flowP 3 2) (flowT 2 2) = true := by kernel_rfl
end Go.Abs.SeatC
