/-
  SymsTwice, part 4: cases.
-/
import Derived.Test.YtobablbcmdhlbaaGreatDoorSymsTwice0
namespace Go.Abs.SeatA
open Go Go.Abs Go.Proofs
set_option maxRecDepth 100000
theorem t86_9 (a m : Int) : t86 (OptS.st (tlo 9 a m)) = some (.int .i64 (wrapR .i64 m)) := by kernel_rfl
theorem tone_9 (a m : Int) : tone 9 a m = true := by kernel_rfl
theorem t86_10 (a m : Int) : t86 (OptS.st (tlo 10 a m)) = some (.int .i64 (wrapR .i64 m)) := by kernel_rfl
theorem tone_10 (a m : Int) : tone 10 a m = true := by kernel_rfl
end Go.Abs.SeatA
