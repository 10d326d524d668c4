/-
  SecFlows: 10 of the cases, run.
-/
import Derived.Test.YtfmdgjnjfmgbmaaGreatDoorSecFlows0
namespace Go.Abs.SeatC
open Go Go.Abs Go.Proofs
set_option maxRecDepth 100000
theorem fr_20_18 : isOk (flowP 20 18) = true := by kernel_rfl
theorem fl_20_18 : isYes (flowP 20 18) (flowT 19 18) = true := by kernel_rfl
theorem fr_18_4 : isOk (flowP 18 4) = true := by kernel_rfl
theorem fl_18_4 : isYes (flowP 18 4) (flowT 17 4) = true := by kernel_rfl
theorem fr_18_11 : isOk (flowP 18 11) = true := by kernel_rfl
theorem fl_18_11 : isYes (flowP 18 11) (flowT 17 11) = true := by kernel_rfl
theorem fr_16_10 : isOk (flowP 16 10) = true := by kernel_rfl
theorem fl_16_10 : isYes (flowP 16 10) (flowT 15 10) = true := by kernel_rfl
theorem fr_15_12 : isOk (flowP 15 12) = true := by kernel_rfl
theorem fl_15_12 : isYes (flowP 15 12) (flowT 14 12) = true := by kernel_rfl
theorem fr_12_0 : isOk (flowP 12 0) = true := by kernel_rfl
theorem fl_12_0 : isYes (flowP 12 0) (flowT 11 0) = true := by kernel_rfl
theorem fr_12_4 : isOk (flowP 12 4) = true := by kernel_rfl
theorem fl_12_4 : isYes (flowP 12 4) (flowT 11 4) = true := by kernel_rfl
theorem fr_9_4 : isOk (flowP 9 4) = true := by kernel_rfl
theorem fl_9_4 : isYes (flowP 9 4) (flowT 8 4) = true := by kernel_rfl
theorem fr_6_n : isOk (flowP 6 99) = true := by kernel_rfl
theorem fl_6_n : isYes (flowP 6 99) (flowN 5) = true := by kernel_rfl
theorem fr_3_0 : isOk (flowP 3 0) = true := by kernel_rfl
theorem fl_3_0 : isYes (flowP 3 0) (flowT 2 0) = true := by kernel_rfl
end Go.Abs.SeatC
