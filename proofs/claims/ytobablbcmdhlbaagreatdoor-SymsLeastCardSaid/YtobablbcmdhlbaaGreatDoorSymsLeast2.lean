/-
  SymsLeast, part 2: cases.
-/
import Derived.Test.YtobablbcmdhlbaaGreatDoorSymsLeast0
namespace Go.Abs.SeatA
open Go Go.Abs Go.Proofs
set_option maxRecDepth 100000
theorem o_5_0 (a g : Int) : lone 5 0 a g = true := by kernel_rfl
theorem o_5_1 (a g : Int) : lone 5 1 a g = true := by kernel_rfl
theorem o_5_2 (a g : Int) : lone 5 2 a g = true := by kernel_rfl
theorem o_5_3 (a g : Int) : lone 5 3 a g = true := by kernel_rfl
theorem o_5_4 (a g : Int) : lone 5 4 a g = true := by kernel_rfl
theorem o_5_5 (a g : Int) : lone 5 5 a g = true := by kernel_rfl
theorem o_5_6 (a g : Int) : lone 5 6 a g = true := by kernel_rfl
theorem o_6_0 (a g : Int) : lone 6 0 a g = true := by kernel_rfl
theorem o_6_1 (a g : Int) : lone 6 1 a g = true := by kernel_rfl
theorem o_6_2 (a g : Int) : lone 6 2 a g = true := by kernel_rfl
theorem o_6_3 (a g : Int) : lone 6 3 a g = true := by kernel_rfl
theorem o_6_4 (a g : Int) : lone 6 4 a g = true := by kernel_rfl
theorem o_6_5 (a g : Int) : lone 6 5 a g = true := by kernel_rfl
theorem o_6_6 (a g : Int) : lone 6 6 a g = true := by kernel_rfl
theorem o_6_7 (a g : Int) : lone 6 7 a g = true := by kernel_rfl
end Go.Abs.SeatA
