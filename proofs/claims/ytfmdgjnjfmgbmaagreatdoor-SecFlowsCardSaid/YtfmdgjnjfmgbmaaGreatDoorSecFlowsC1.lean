/-
  SecFlows: 9 of the cases, run.
-/
import Derived.Test.YtfmdgjnjfmgbmaaGreatDoorSecFlows0
namespace Go.Abs.SeatC
open Go Go.Abs Go.Proofs
set_option maxRecDepth 100000
theorem fr_20_n : isOk (flowP 20 99) = true := by kernel_rfl
theorem fl_20_n : isYes (flowP 20 99) (flowN 19) = true := by kernel_rfl
theorem fr_19_5 : isOk (flowP 19 5) = true := by kernel_rfl
theorem fl_19_5 : isYes (flowP 19 5) (flowT 18 5) = true := by kernel_rfl
theorem fr_18_16 : isOk (flowP 18 16) = true := by kernel_rfl
theorem fl_18_16 : isYes (flowP 18 16) (flowT 17 16) = true := by kernel_rfl
theorem fr_16_15 : isOk (flowP 16 15) = true := by kernel_rfl
theorem fl_16_15 : isYes (flowP 16 15) (flowT 15 15) = true := by kernel_rfl
theorem fr_14_1 : isOk (flowP 14 1) = true := by kernel_rfl
theorem fl_14_1 : isYes (flowP 14 1) (flowT 13 1) = true := by kernel_rfl
theorem fr_14_10 : isOk (flowP 14 10) = true := by kernel_rfl
theorem fl_14_10 : isYes (flowP 14 10) (flowT 13 10) = true := by kernel_rfl
theorem fr_11_10 : isOk (flowP 11 10) = true := by kernel_rfl
theorem fl_11_10 : isYes (flowP 11 10) (flowT 10 10) = true := by kernel_rfl
theorem fr_8_n : isOk (flowP 8 99) = true := by kernel_rfl
theorem fl_8_n : isYes (flowP 8 99) (flowN 7) = true := by kernel_rfl
theorem fr_8_5 : isOk (flowP 8 5) = true := by kernel_rfl
theorem fl_8_5 : isYes (flowP 8 5) (flowT 7 5) = true := by kernel_rfl
end Go.Abs.SeatC
