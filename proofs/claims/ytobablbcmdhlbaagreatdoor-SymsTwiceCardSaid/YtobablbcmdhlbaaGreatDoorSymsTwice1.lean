/-
  SymsTwice, part 1: cases.
-/
import Derived.Test.YtobablbcmdhlbaaGreatDoorSymsTwice0
namespace Go.Abs.SeatA
open Go Go.Abs Go.Proofs
set_option maxRecDepth 100000
theorem t86_0 (a m : Int) : t86 (OptS.st (tlo 0 a m)) = some (.int .i64 (wrapR .i64 m)) := by kernel_rfl
theorem tone_0 (a m : Int) : tone 0 a m = true := by kernel_rfl
theorem t86_1 (a m : Int) : t86 (OptS.st (tlo 1 a m)) = some (.int .i64 (wrapR .i64 m)) := by kernel_rfl
theorem tone_1 (a m : Int) : tone 1 a m = true := by kernel_rfl
theorem t86_2 (a m : Int) : t86 (OptS.st (tlo 2 a m)) = some (.int .i64 (wrapR .i64 m)) := by kernel_rfl
theorem tone_2 (a m : Int) : tone 2 a m = true := by kernel_rfl
end Go.Abs.SeatA
