/-
  SecFlows: 10 of the cases, run.
-/
import Derived.Test.YtfmdgjnjfmgbmaaGreatDoorSecFlows0
namespace Go.Abs.SeatC
open Go Go.Abs Go.Proofs
set_option maxRecDepth 100000
theorem fr_20_10 : isOk (flowP 20 10) = true := by kernel_rfl
theorem fl_20_10 : isYes (flowP 20 10) (flowT 19 10) = true := by kernel_rfl
theorem fr_19_16 : isOk (flowP 19 16) = true := by kernel_rfl
theorem fl_19_16 : isYes (flowP 19 16) (flowT 18 16) = true := by kernel_rfl
theorem fr_17_8 : isOk (flowP 17 8) = true := by kernel_rfl
theorem fl_17_8 : isYes (flowP 17 8) (flowT 16 8) = true := by kernel_rfl
theorem fr_16_2 : isOk (flowP 16 2) = true := by kernel_rfl
theorem fl_16_2 : isYes (flowP 16 2) (flowT 15 2) = true := by kernel_rfl
theorem fr_15_4 : isOk (flowP 15 4) = true := by kernel_rfl
theorem fl_15_4 : isYes (flowP 15 4) (flowT 14 4) = true := by kernel_rfl
theorem fr_13_6 : isOk (flowP 13 6) = true := by kernel_rfl
theorem fl_13_6 : isYes (flowP 13 6) (flowT 12 6) = true := by kernel_rfl
theorem fr_11_1 : isOk (flowP 11 1) = true := by kernel_rfl
theorem fl_11_1 : isYes (flowP 11 1) (flowT 10 1) = true := by kernel_rfl
theorem fr_10_7 : isOk (flowP 10 7) = true := by kernel_rfl
theorem fl_10_7 : isYes (flowP 10 7) (flowT 9 7) = true := by kernel_rfl
theorem fr_5_2 : isOk (flowP 5 2) = true := by kernel_rfl
theorem fl_5_2 : isYes (flowP 5 2) (flowT 4 2) = true := by kernel_rfl
theorem fr_4_2 : isOk (flowP 4 2) = true := by kernel_rfl
theorem fl_4_2 : isYes (flowP 4 2) (flowT 3 2) = true := by kernel_rfl
end Go.Abs.SeatC
