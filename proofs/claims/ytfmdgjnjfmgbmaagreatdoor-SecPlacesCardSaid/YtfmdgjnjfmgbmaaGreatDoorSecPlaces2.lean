/-
  SecPlaces, part 2: cases.
-/
import Derived.Test.YtfmdgjnjfmgbmaaGreatDoorSecPlaces0
namespace Go.Abs.SeatB
open Go Go.Abs Go.Proofs
set_option maxRecDepth 100000
theorem o_2_true (a : Int) : lone 2 true a = true := by kernel_rfl
theorem o_2_false (a : Int) : lone 2 false a = true := by kernel_rfl
theorem o_3_true (a : Int) : lone 3 true a = true := by kernel_rfl
theorem o_3_false (a : Int) : lone 3 false a = true := by kernel_rfl
end Go.Abs.SeatB
