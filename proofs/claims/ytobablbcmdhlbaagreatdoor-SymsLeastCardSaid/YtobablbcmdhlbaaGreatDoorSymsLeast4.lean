/-
  SymsLeast, part 4: cases.
-/
import Derived.Test.YtobablbcmdhlbaaGreatDoorSymsLeast0
namespace Go.Abs.SeatA
open Go Go.Abs Go.Proofs
set_option maxRecDepth 100000
theorem o_8_0 (a g : Int) : lone 8 0 a g = true := by kernel_rfl
theorem o_8_1 (a g : Int) : lone 8 1 a g = true := by kernel_rfl
theorem o_8_2 (a g : Int) : lone 8 2 a g = true := by kernel_rfl
theorem o_8_3 (a g : Int) : lone 8 3 a g = true := by kernel_rfl
theorem o_8_4 (a g : Int) : lone 8 4 a g = true := by kernel_rfl
theorem o_8_5 (a g : Int) : lone 8 5 a g = true := by kernel_rfl
theorem o_8_6 (a g : Int) : lone 8 6 a g = true := by kernel_rfl
theorem o_8_7 (a g : Int) : lone 8 7 a g = true := by kernel_rfl
theorem o_8_8 (a g : Int) : lone 8 8 a g = true := by kernel_rfl
theorem o_8_9 (a g : Int) : lone 8 9 a g = true := by kernel_rfl
end Go.Abs.SeatA
