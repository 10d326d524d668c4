/-
  SecFlows: 10 of the cases, run.
-/
import Derived.Test.YtfmdgjnjfmgbmaaGreatDoorSecFlows0
namespace Go.Abs.SeatC
open Go Go.Abs Go.Proofs
set_option maxRecDepth 100000
theorem fr_20_8 : isOk (flowP 20 8) = true := by kernel_rfl
theorem fl_20_8 : isYes (flowP 20 8) (flowT 19 8) = true := by kernel_rfl
theorem fr_19_14 : isOk (flowP 19 14) = true := by kernel_rfl
theorem fl_19_14 : isYes (flowP 19 14) (flowT 18 14) = true := by kernel_rfl
theorem fr_17_6 : isOk (flowP 17 6) = true := by kernel_rfl
theorem fl_17_6 : isYes (flowP 17 6) (flowT 16 6) = true := by kernel_rfl
theorem fr_16_0 : isOk (flowP 16 0) = true := by kernel_rfl
theorem fl_16_0 : isYes (flowP 16 0) (flowT 15 0) = true := by kernel_rfl
theorem fr_15_2 : isOk (flowP 15 2) = true := by kernel_rfl
theorem fl_15_2 : isYes (flowP 15 2) (flowT 14 2) = true := by kernel_rfl
theorem fr_13_4 : isOk (flowP 13 4) = true := by kernel_rfl
theorem fl_13_4 : isYes (flowP 13 4) (flowT 12 4) = true := by kernel_rfl
theorem fr_11_n : isOk (flowP 11 99) = true := by kernel_rfl
theorem fl_11_n : isYes (flowP 11 99) (flowN 10) = true := by kernel_rfl
theorem fr_10_5 : isOk (flowP 10 5) = true := by kernel_rfl
theorem fl_10_5 : isYes (flowP 10 5) (flowT 9 5) = true := by kernel_rfl
theorem fr_5_0 : isOk (flowP 5 0) = true := by kernel_rfl
theorem fl_5_0 : isYes (flowP 5 0) (flowT 4 0) = true := by kernel_rfl
theorem fr_4_0 : isOk (flowP 4 0) = true := by kernel_rfl
theorem fl_4_0 : isYes (flowP 4 0) (flowT 3 0) = true := by kernel_rfl
end Go.Abs.SeatC
