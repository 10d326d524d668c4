/-
  SecFlows: 9 of the cases, run.
-/
import Derived.Test.YtfmdgjnjfmgbmaaGreatDoorSecFlows0
namespace Go.Abs.SeatC
open Go Go.Abs Go.Proofs
set_option maxRecDepth 100000
theorem fr_20_13 : isOk (flowP 20 13) = true := by kernel_rfl
theorem fl_20_13 : isYes (flowP 20 13) (flowT 19 13) = true := by kernel_rfl
theorem fr_18_n : isOk (flowP 18 99) = true := by kernel_rfl
theorem fl_18_n : isYes (flowP 18 99) (flowN 17) = true := by kernel_rfl
theorem fr_18_6 : isOk (flowP 18 6) = true := by kernel_rfl
theorem fl_18_6 : isYes (flowP 18 6) (flowT 17 6) = true := by kernel_rfl
theorem fr_16_5 : isOk (flowP 16 5) = true := by kernel_rfl
theorem fl_16_5 : isYes (flowP 16 5) (flowT 15 5) = true := by kernel_rfl
theorem fr_15_7 : isOk (flowP 15 7) = true := by kernel_rfl
theorem fl_15_7 : isYes (flowP 15 7) (flowT 14 7) = true := by kernel_rfl
theorem fr_13_9 : isOk (flowP 13 9) = true := by kernel_rfl
theorem fl_13_9 : isYes (flowP 13 9) (flowT 12 9) = true := by kernel_rfl
theorem fr_11_4 : isOk (flowP 11 4) = true := by kernel_rfl
theorem fl_11_4 : isYes (flowP 11 4) (flowT 10 4) = true := by kernel_rfl
theorem fr_9_n : isOk (flowP 9 99) = true := by kernel_rfl
theorem fl_9_n : isYes (flowP 9 99) (flowN 8) = true := by kernel_rfl
theorem fr_7_2 : isOk (flowP 7 2) = true := by kernel_rfl
theorem fl_7_2 : isYes (flowP 7 2) (flowT 6 2) = true := by kernel_rfl
end Go.Abs.SeatC
