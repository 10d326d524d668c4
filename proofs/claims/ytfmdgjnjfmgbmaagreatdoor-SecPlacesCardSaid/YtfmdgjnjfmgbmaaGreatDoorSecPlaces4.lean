/-
  SecPlaces, part 4: cases.
-/
import Derived.Test.YtfmdgjnjfmgbmaaGreatDoorSecPlaces0
namespace Go.Abs.SeatB
open Go Go.Abs Go.Proofs
set_option maxRecDepth 100000
theorem o_5_false (a : Int) : lone 5 false a = true := by kernel_rfl
theorem o_6_true (a : Int) : lone 6 true a = true := by kernel_rfl
theorem o_6_false (a : Int) : lone 6 false a = true := by kernel_rfl
end Go.Abs.SeatB
