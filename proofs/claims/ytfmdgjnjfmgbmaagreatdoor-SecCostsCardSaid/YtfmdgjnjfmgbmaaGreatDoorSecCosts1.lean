/-
  SecCosts, part 1: three of the cases, run.
-/
import Derived.Test.YtfmdgjnjfmgbmaaGreatDoorSecCosts0
namespace Go.Abs.SeatC
open Go Go.Abs Go.Proofs
set_option maxRecDepth 100000
theorem cr1 : testRunR cx4 1000 100 3 cc1 (fun u => V.eqF u (.bool true)) = true := by kernel_rfl
theorem cr2 : testRunR cx4 1000 100 3 cc2 (fun u => V.eqF u (.bool true)) = true := by kernel_rfl
theorem cr3 : testRunR cx4 1000 100 3 cc3 (fun u => V.eqF u (.bool true)) = true := by kernel_rfl
end Go.Abs.SeatC
