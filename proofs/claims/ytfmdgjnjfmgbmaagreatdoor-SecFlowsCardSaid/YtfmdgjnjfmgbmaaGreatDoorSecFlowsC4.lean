/-
  SecFlows: 10 of the cases, run.
-/
import Derived.Test.YtfmdgjnjfmgbmaaGreatDoorSecFlows0
namespace Go.Abs.SeatC
open Go Go.Abs Go.Proofs
set_option maxRecDepth 100000
theorem fr_20_2 : isOk (flowP 20 2) = true := by kernel_rfl
theorem fl_20_2 : isYes (flowP 20 2) (flowT 19 2) = true := by kernel_rfl
theorem fr_19_8 : isOk (flowP 19 8) = true := by kernel_rfl
theorem fl_19_8 : isYes (flowP 19 8) (flowT 18 8) = true := by kernel_rfl
theorem fr_17_0 : isOk (flowP 17 0) = true := by kernel_rfl
theorem fl_17_0 : isYes (flowP 17 0) (flowT 16 0) = true := by kernel_rfl
theorem fr_17_12 : isOk (flowP 17 12) = true := by kernel_rfl
theorem fl_17_12 : isYes (flowP 17 12) (flowT 16 12) = true := by kernel_rfl
theorem fr_14_3 : isOk (flowP 14 3) = true := by kernel_rfl
theorem fl_14_3 : isYes (flowP 14 3) (flowT 13 3) = true := by kernel_rfl
theorem fr_14_13 : isOk (flowP 14 13) = true := by kernel_rfl
theorem fl_14_13 : isYes (flowP 14 13) (flowT 13 13) = true := by kernel_rfl
theorem fr_10_1 : isOk (flowP 10 1) = true := by kernel_rfl
theorem fl_10_1 : isYes (flowP 10 1) (flowT 9 1) = true := by kernel_rfl
theorem fr_10_4 : isOk (flowP 10 4) = true := by kernel_rfl
theorem fl_10_4 : isYes (flowP 10 4) (flowT 9 4) = true := by kernel_rfl
theorem fr_5_n : isOk (flowP 5 99) = true := by kernel_rfl
theorem fl_5_n : isYes (flowP 5 99) (flowN 4) = true := by kernel_rfl
theorem fr_4_n : isOk (flowP 4 99) = true := by kernel_rfl
theorem fl_4_n : isYes (flowP 4 99) (flowN 3) = true := by kernel_rfl
end Go.Abs.SeatC
