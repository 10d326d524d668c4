/-
  SecFlows: 9 of the cases, run.
-/
import Derived.Test.YtfmdgjnjfmgbmaaGreatDoorSecFlows0
namespace Go.Abs.SeatC
open Go Go.Abs Go.Proofs
set_option maxRecDepth 100000
theorem fr_20_7 : isOk (flowP 20 7) = true := by kernel_rfl
theorem fl_20_7 : isYes (flowP 20 7) (flowT 19 7) = true := by kernel_rfl
theorem fr_19_13 : isOk (flowP 19 13) = true := by kernel_rfl
theorem fl_19_13 : isYes (flowP 19 13) (flowT 18 13) = true := by kernel_rfl
theorem fr_17_5 : isOk (flowP 17 5) = true := by kernel_rfl
theorem fl_17_5 : isYes (flowP 17 5) (flowT 16 5) = true := by kernel_rfl
theorem fr_16_n : isOk (flowP 16 99) = true := by kernel_rfl
theorem fl_16_n : isYes (flowP 16 99) (flowN 15) = true := by kernel_rfl
theorem fr_15_1 : isOk (flowP 15 1) = true := by kernel_rfl
theorem fl_15_1 : isYes (flowP 15 1) (flowT 14 1) = true := by kernel_rfl
theorem fr_13_3 : isOk (flowP 13 3) = true := by kernel_rfl
theorem fl_13_3 : isYes (flowP 13 3) (flowT 12 3) = true := by kernel_rfl
theorem fr_12_11 : isOk (flowP 12 11) = true := by kernel_rfl
theorem fl_12_11 : isYes (flowP 12 11) (flowT 11 11) = true := by kernel_rfl
theorem fr_8_4 : isOk (flowP 8 4) = true := by kernel_rfl
theorem fl_8_4 : isYes (flowP 8 4) (flowT 7 4) = true := by kernel_rfl
theorem fr_7_1 : isOk (flowP 7 1) = true := by kernel_rfl
theorem fl_7_1 : isYes (flowP 7 1) (flowT 6 1) = true := by kernel_rfl
end Go.Abs.SeatC
