/-
  SymsLeast, part 3: cases.
-/
import Derived.Test.YtobablbcmdhlbaaGreatDoorSymsLeast0
namespace Go.Abs.SeatA
open Go Go.Abs Go.Proofs
set_option maxRecDepth 100000
theorem o_7_0 (a g : Int) : lone 7 0 a g = true := by kernel_rfl
theorem o_7_1 (a g : Int) : lone 7 1 a g = true := by kernel_rfl
theorem o_7_2 (a g : Int) : lone 7 2 a g = true := by kernel_rfl
theorem o_7_3 (a g : Int) : lone 7 3 a g = true := by kernel_rfl
theorem o_7_4 (a g : Int) : lone 7 4 a g = true := by kernel_rfl
theorem o_7_5 (a g : Int) : lone 7 5 a g = true := by kernel_rfl
theorem o_7_6 (a g : Int) : lone 7 6 a g = true := by kernel_rfl
theorem o_7_7 (a g : Int) : lone 7 7 a g = true := by kernel_rfl
theorem o_7_8 (a g : Int) : lone 7 8 a g = true := by kernel_rfl
end Go.Abs.SeatA
