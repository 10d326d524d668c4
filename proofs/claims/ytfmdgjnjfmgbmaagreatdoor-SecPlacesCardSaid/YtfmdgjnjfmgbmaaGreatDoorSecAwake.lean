/-
  Sec: what the laws ask first, answered.
-/
import Derived.Test.YtfmdgjnjfmgbmaaGreatDoorSecBase
namespace Go.Abs.SeatB
open Go Go.Abs Go.Proofs
set_option maxRecDepth 100000
noncomputable section
def awakeT : List (List V × V) := [([], .bool true)]
theorem awakeRuns : tabRuns cx2 1000 100 6 awakeT = true := by kernel_rfl
def sums3 : List (Nat × (List V → Option V)) := [(6, tabF awakeT)] ++ sums2
def cx3 : Ctx := { fn := fns, sum := (T.ofList sums3).getR, clone := Nat.beq 80 }
theorem S3 : ∀ p ∈ sums3, PureSpec Tryz.prog gl p.1 p.2 := List.forall_mem_cons.2 ⟨tab_ok mixed H2 awakeRuns, S2⟩
theorem H3 : CtxOk Tryz.prog gl cx3 := ctx_clone fnsOk S3 clone80
end
end Go.Abs.SeatB
