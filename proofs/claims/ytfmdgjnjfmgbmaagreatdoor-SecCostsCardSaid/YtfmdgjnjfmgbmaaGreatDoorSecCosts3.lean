/-
  SecCosts, part 3: all cases put together.
-/
import Derived.Test.YtfmdgjnjfmgbmaaGreatDoorSecCosts1
import Derived.Test.YtfmdgjnjfmgbmaaGreatDoorSecCosts2
namespace Go.Abs.SeatC
open Go Go.Abs Go.Proofs Go.RowKit
set_option maxRecDepth 100000
set_option linter.unusedSectionVars false
variable [Syms]
def costsT : List (List V × V) := [(cc1, .bool true), (cc2, .bool true), (cc3, .bool true), (cc4, .bool true), (cc5, .bool true), (cc6, .bool true)]
theorem costs_pure : PureSpec Tryz.prog gl 3 (tabF costsT) :=
  tab_of (m := 1000) (n := 100) mixed H4 fun p hp => by
    simp only [costsT, List.mem_cons, List.not_mem_nil, or_false] at hp
    rcases hp with rfl | rfl | rfl | rfl | rfl | rfl
    · exact cr1
    · exact cr2
    · exact cr3
    · exact cr4
    · exact cr5
    · exact cr6

theorem V.eqF_refl_cc : ∀ p ∈ costsT, tabF costsT p.1 = some (.bool true) := by
  intro p hp
  simp only [costsT, List.mem_cons, List.not_mem_nil, or_false] at hp
  rcases hp with rfl | rfl | rfl | rfl | rfl | rfl <;> kernel_rfl
end Go.Abs.SeatC
