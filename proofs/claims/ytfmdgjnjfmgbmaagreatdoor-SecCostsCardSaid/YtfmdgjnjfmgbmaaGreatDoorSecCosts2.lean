/-
  SecCosts, part 2: three of the cases, run.
-/
import Derived.Test.YtfmdgjnjfmgbmaaGreatDoorSecCosts0
namespace Go.Abs.SeatC
open Go Go.Abs Go.Proofs
set_option maxRecDepth 100000
theorem cr4 : testRunR cx4 1000 100 3 cc4 (fun u => V.eqF u (.bool true)) = true := by kernel_rfl
theorem cr5 : testRunR cx4 1000 100 3 cc5 (fun u => V.eqF u (.bool true)) = true := by kernel_rfl
theorem cr6 : testRunR cx4 1000 100 3 cc6 (fun u => V.eqF u (.bool true)) = true := by kernel_rfl
end Go.Abs.SeatC
