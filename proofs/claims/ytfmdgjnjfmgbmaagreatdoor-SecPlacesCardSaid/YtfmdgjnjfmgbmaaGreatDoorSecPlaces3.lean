/-
  SecPlaces, part 3: cases.
-/
import Derived.Test.YtfmdgjnjfmgbmaaGreatDoorSecPlaces0
namespace Go.Abs.SeatB
open Go Go.Abs Go.Proofs
set_option maxRecDepth 100000
theorem o_4_true (a : Int) : lone 4 true a = true := by kernel_rfl
theorem o_4_false (a : Int) : lone 4 false a = true := by kernel_rfl
theorem o_5_true (a : Int) : lone 5 true a = true := by kernel_rfl
end Go.Abs.SeatB
