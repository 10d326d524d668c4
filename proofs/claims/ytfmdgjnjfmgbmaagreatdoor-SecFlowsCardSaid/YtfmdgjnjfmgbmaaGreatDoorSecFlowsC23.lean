/-
  SecFlows: 10 of the cases, run.
-/
import Derived.Test.YtfmdgjnjfmgbmaaGreatDoorSecFlows0
namespace Go.Abs.SeatC
open Go Go.Abs Go.Proofs
set_option maxRecDepth 100000
theorem fr_19_0 : isOk (flowP 19 0) = true := by kernel_rfl
theorem fl_19_0 : isYes (flowP 19 0) (flowT 18 0) = true := by kernel_rfl
theorem fr_19_3 : isOk (flowP 19 3) = true := by kernel_rfl
theorem fl_19_3 : isYes (flowP 19 3) (flowT 18 3) = true := by kernel_rfl
theorem fr_18_14 : isOk (flowP 18 14) = true := by kernel_rfl
theorem fl_18_14 : isYes (flowP 18 14) (flowT 17 14) = true := by kernel_rfl
theorem fr_16_13 : isOk (flowP 16 13) = true := by kernel_rfl
theorem fl_16_13 : isYes (flowP 16 13) (flowT 15 13) = true := by kernel_rfl
theorem fr_14_n : isOk (flowP 14 99) = true := by kernel_rfl
theorem fl_14_n : isYes (flowP 14 99) (flowN 13) = true := by kernel_rfl
theorem fr_14_8 : isOk (flowP 14 8) = true := by kernel_rfl
theorem fl_14_8 : isYes (flowP 14 8) (flowT 13 8) = true := by kernel_rfl
theorem fr_11_8 : isOk (flowP 11 8) = true := by kernel_rfl
theorem fl_11_8 : isYes (flowP 11 8) (flowT 10 8) = true := by kernel_rfl
theorem fr_9_7 : isOk (flowP 9 7) = true := by kernel_rfl
theorem fl_9_7 : isYes (flowP 9 7) (flowT 8 7) = true := by kernel_rfl
theorem fr_6_2 : isOk (flowP 6 2) = true := by kernel_rfl
theorem fl_6_2 : isYes (flowP 6 2) (flowT 5 2) = true := by kernel_rfl
theorem fr_2_n : isOk (flowP 2 99) = true := by kernel_rfl
theorem fl_2_n : isYes (flowP 2 99) (flowN 1) = true := by kernel_rfl
end Go.Abs.SeatC
