/-
  SecPlaces, part 1: cases.
-/
import Derived.Test.YtfmdgjnjfmgbmaaGreatDoorSecPlaces0
namespace Go.Abs.SeatB
open Go Go.Abs Go.Proofs
set_option maxRecDepth 100000
theorem o_0_true (a : Int) : lone 0 true a = true := by kernel_rfl
theorem o_0_false (a : Int) : lone 0 false a = true := by kernel_rfl
theorem o_1_true (a : Int) : lone 1 true a = true := by kernel_rfl
theorem o_1_false (a : Int) : lone 1 false a = true := by kernel_rfl
end Go.Abs.SeatB
