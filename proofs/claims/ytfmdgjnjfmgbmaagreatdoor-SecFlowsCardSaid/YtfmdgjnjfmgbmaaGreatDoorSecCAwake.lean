/-
  Sec: what the laws ask first, answered.
-/
import Derived.Test.YtfmdgjnjfmgbmaaGreatDoorSecCBase
namespace Go.Abs.SeatC
open Go Go.Abs Go.Proofs
set_option maxRecDepth 100000
set_option linter.unusedSectionVars false
variable [Syms]
noncomputable section
def awakeT : List (List V × V) := [([], .bool true)]
theorem awakeRuns : tabRuns cx3 1000 100 6 awakeT = true := by kernel_rfl
def sums4 : List (Nat × (List V → Option V)) := [(6, tabF awakeT)] ++ sums3
def cx4 : Ctx := { fn := fns, sum := (T.ofList sums4).getR, clone := Nat.beq 80 }
theorem S4 : ∀ p ∈ sums4, PureSpec Tryz.prog gl p.1 p.2 := List.forall_mem_cons.2 ⟨tab_ok mixed H3 awakeRuns, S3⟩
theorem H4 : CtxOk Tryz.prog gl cx4 := ctx_clone fnsOk S4 clone80
end
end Go.Abs.SeatC
