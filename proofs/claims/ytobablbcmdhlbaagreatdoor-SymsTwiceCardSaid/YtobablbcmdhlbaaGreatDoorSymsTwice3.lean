/-
  SymsTwice, part 3: cases.
-/
import Derived.Test.YtobablbcmdhlbaaGreatDoorSymsTwice0
namespace Go.Abs.SeatA
open Go Go.Abs Go.Proofs
set_option maxRecDepth 100000
theorem t86_6 (a m : Int) : t86 (OptS.st (tlo 6 a m)) = some (.int .i64 (wrapR .i64 m)) := by kernel_rfl
theorem tone_6 (a m : Int) : tone 6 a m = true := by kernel_rfl
theorem t86_7 (a m : Int) : t86 (OptS.st (tlo 7 a m)) = some (.int .i64 (wrapR .i64 m)) := by kernel_rfl
theorem tone_7 (a m : Int) : tone 7 a m = true := by kernel_rfl
theorem t86_8 (a m : Int) : t86 (OptS.st (tlo 8 a m)) = some (.int .i64 (wrapR .i64 m)) := by kernel_rfl
theorem tone_8 (a m : Int) : tone 8 a m = true := by kernel_rfl
end Go.Abs.SeatA
