/-
  SymsLeast, part 5: cases.
-/
import Derived.Test.YtobablbcmdhlbaaGreatDoorSymsLeast0
namespace Go.Abs.SeatA
open Go Go.Abs Go.Proofs
set_option maxRecDepth 100000
theorem o_9_0 (a g : Int) : lone 9 0 a g = true := by kernel_rfl
theorem o_9_1 (a g : Int) : lone 9 1 a g = true := by kernel_rfl
theorem o_9_2 (a g : Int) : lone 9 2 a g = true := by kernel_rfl
theorem o_9_3 (a g : Int) : lone 9 3 a g = true := by kernel_rfl
theorem o_9_4 (a g : Int) : lone 9 4 a g = true := by kernel_rfl
theorem o_9_5 (a g : Int) : lone 9 5 a g = true := by kernel_rfl
theorem o_9_6 (a g : Int) : lone 9 6 a g = true := by kernel_rfl
theorem o_9_7 (a g : Int) : lone 9 7 a g = true := by kernel_rfl
theorem o_9_8 (a g : Int) : lone 9 8 a g = true := by kernel_rfl
theorem o_9_9 (a g : Int) : lone 9 9 a g = true := by kernel_rfl
theorem o_9_10 (a g : Int) : lone 9 10 a g = true := by kernel_rfl
end Go.Abs.SeatA
