/-
  SecFlows: 10 of the cases, run.
-/
import Derived.Test.YtfmdgjnjfmgbmaaGreatDoorSecFlows0
namespace Go.Abs.SeatC
open Go Go.Abs Go.Proofs
set_option maxRecDepth 100000
theorem fr_20_0 : isOk (flowP 20 0) = true := by kernel_rfl
theorem fl_20_0 : isYes (flowP 20 0) (flowT 19 0) = true := by kernel_rfl
theorem fr_19_6 : isOk (flowP 19 6) = true := by kernel_rfl
theorem fl_19_6 : isYes (flowP 19 6) (flowT 18 6) = true := by kernel_rfl
theorem fr_18_17 : isOk (flowP 18 17) = true := by kernel_rfl
theorem fl_18_17 : isYes (flowP 18 17) (flowT 17 17) = true := by kernel_rfl
theorem fr_15_n : isOk (flowP 15 99) = true := by kernel_rfl
theorem fl_15_n : isYes (flowP 15 99) (flowN 14) = true := by kernel_rfl
theorem fr_15_0 : isOk (flowP 15 0) = true := by kernel_rfl
theorem fl_15_0 : isYes (flowP 15 0) (flowT 14 0) = true := by kernel_rfl
theorem fr_14_11 : isOk (flowP 14 11) = true := by kernel_rfl
theorem fl_14_11 : isYes (flowP 14 11) (flowT 13 11) = true := by kernel_rfl
theorem fr_10_n : isOk (flowP 10 99) = true := by kernel_rfl
theorem fl_10_n : isYes (flowP 10 99) (flowN 9) = true := by kernel_rfl
theorem fr_10_2 : isOk (flowP 10 2) = true := by kernel_rfl
theorem fl_10_2 : isYes (flowP 10 2) (flowT 9 2) = true := by kernel_rfl
theorem fr_6_4 : isOk (flowP 6 4) = true := by kernel_rfl
theorem fl_6_4 : isYes (flowP 6 4) (flowT 5 4) = true := by kernel_rfl
theorem fr_2_1 : isOk (flowP 2 1) = true := by kernel_rfl
theorem fl_2_1 : isYes (flowP 2 1) (flowT 1 1) = true := by kernel_rfl
end Go.Abs.SeatC
