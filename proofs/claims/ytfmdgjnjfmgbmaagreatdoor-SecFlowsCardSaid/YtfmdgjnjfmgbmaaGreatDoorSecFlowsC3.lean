/-
  SecFlows: 10 of the cases, run.
-/
import Derived.Test.YtfmdgjnjfmgbmaaGreatDoorSecFlows0
namespace Go.Abs.SeatC
open Go Go.Abs Go.Proofs
set_option maxRecDepth 100000
theorem fr_20_1 : isOk (flowP 20 1) = true := by kernel_rfl
theorem fl_20_1 : isYes (flowP 20 1) (flowT 19 1) = true := by kernel_rfl
theorem fr_19_7 : isOk (flowP 19 7) = true := by kernel_rfl
theorem fl_19_7 : isYes (flowP 19 7) (flowT 18 7) = true := by kernel_rfl
theorem fr_17_n : isOk (flowP 17 99) = true := by kernel_rfl
theorem fl_17_n : isYes (flowP 17 99) (flowN 16) = true := by kernel_rfl
theorem fr_17_11 : isOk (flowP 17 11) = true := by kernel_rfl
theorem fl_17_11 : isYes (flowP 17 11) (flowT 16 11) = true := by kernel_rfl
theorem fr_14_2 : isOk (flowP 14 2) = true := by kernel_rfl
theorem fl_14_2 : isYes (flowP 14 2) (flowT 13 2) = true := by kernel_rfl
theorem fr_14_12 : isOk (flowP 14 12) = true := by kernel_rfl
theorem fl_14_12 : isYes (flowP 14 12) (flowT 13 12) = true := by kernel_rfl
theorem fr_10_0 : isOk (flowP 10 0) = true := by kernel_rfl
theorem fl_10_0 : isYes (flowP 10 0) (flowT 9 0) = true := by kernel_rfl
theorem fr_10_3 : isOk (flowP 10 3) = true := by kernel_rfl
theorem fl_10_3 : isYes (flowP 10 3) (flowT 9 3) = true := by kernel_rfl
theorem fr_6_5 : isOk (flowP 6 5) = true := by kernel_rfl
theorem fl_6_5 : isYes (flowP 6 5) (flowT 5 5) = true := by kernel_rfl
theorem fr_1_n : isOk (flowP 1 99) = true := by kernel_rfl
theorem fl_1_n : isYes (flowP 1 99) (flowN 0) = true := by kernel_rfl
end Go.Abs.SeatC
