/-
  SymsLeast, part 1: cases.
-/
import Derived.Test.YtobablbcmdhlbaaGreatDoorSymsLeast0
namespace Go.Abs.SeatA
open Go Go.Abs Go.Proofs
set_option maxRecDepth 100000
theorem o_0_0 (a g : Int) : lone 0 0 a g = true := by kernel_rfl
theorem o_0_1 (a g : Int) : lone 0 1 a g = true := by kernel_rfl
theorem o_1_0 (a g : Int) : lone 1 0 a g = true := by kernel_rfl
theorem o_1_1 (a g : Int) : lone 1 1 a g = true := by kernel_rfl
theorem o_1_2 (a g : Int) : lone 1 2 a g = true := by kernel_rfl
theorem o_2_0 (a g : Int) : lone 2 0 a g = true := by kernel_rfl
theorem o_2_1 (a g : Int) : lone 2 1 a g = true := by kernel_rfl
theorem o_2_2 (a g : Int) : lone 2 2 a g = true := by kernel_rfl
theorem o_2_3 (a g : Int) : lone 2 3 a g = true := by kernel_rfl
theorem o_3_0 (a g : Int) : lone 3 0 a g = true := by kernel_rfl
theorem o_3_1 (a g : Int) : lone 3 1 a g = true := by kernel_rfl
theorem o_3_2 (a g : Int) : lone 3 2 a g = true := by kernel_rfl
theorem o_3_3 (a g : Int) : lone 3 3 a g = true := by kernel_rfl
theorem o_3_4 (a g : Int) : lone 3 4 a g = true := by kernel_rfl
theorem o_4_0 (a g : Int) : lone 4 0 a g = true := by kernel_rfl
theorem o_4_1 (a g : Int) : lone 4 1 a g = true := by kernel_rfl
theorem o_4_2 (a g : Int) : lone 4 2 a g = true := by kernel_rfl
theorem o_4_3 (a g : Int) : lone 4 3 a g = true := by kernel_rfl
theorem o_4_4 (a g : Int) : lone 4 4 a g = true := by kernel_rfl
theorem o_4_5 (a g : Int) : lone 4 5 a g = true := by kernel_rfl
end Go.Abs.SeatA
