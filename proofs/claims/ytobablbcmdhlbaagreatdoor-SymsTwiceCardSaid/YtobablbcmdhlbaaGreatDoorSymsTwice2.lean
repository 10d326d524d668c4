/-
  SymsTwice, part 2: cases.
-/
import Derived.Test.YtobablbcmdhlbaaGreatDoorSymsTwice0
namespace Go.Abs.SeatA
open Go Go.Abs Go.Proofs
set_option maxRecDepth 100000
theorem t86_3 (a m : Int) : t86 (OptS.st (tlo 3 a m)) = some (.int .i64 (wrapR .i64 m)) := by kernel_rfl
theorem tone_3 (a m : Int) : tone 3 a m = true := by kernel_rfl
theorem t86_4 (a m : Int) : t86 (OptS.st (tlo 4 a m)) = some (.int .i64 (wrapR .i64 m)) := by kernel_rfl
theorem tone_4 (a m : Int) : tone 4 a m = true := by kernel_rfl
theorem t86_5 (a m : Int) : t86 (OptS.st (tlo 5 a m)) = some (.int .i64 (wrapR .i64 m)) := by kernel_rfl
theorem tone_5 (a m : Int) : tone 5 a m = true := by kernel_rfl
end Go.Abs.SeatA
