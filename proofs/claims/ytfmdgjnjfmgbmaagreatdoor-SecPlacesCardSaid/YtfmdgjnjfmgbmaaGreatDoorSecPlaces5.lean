/-
  SecPlaces, part 5: all cases put together.
-/
import Derived.Test.YtfmdgjnjfmgbmaaGreatDoorSecPlaces1
import Derived.Test.YtfmdgjnjfmgbmaaGreatDoorSecPlaces2
import Derived.Test.YtfmdgjnjfmgbmaaGreatDoorSecPlaces3
import Derived.Test.YtfmdgjnjfmgbmaaGreatDoorSecPlaces4
namespace Go.Abs.SeatB
open Go Go.Abs Go.Proofs
set_option maxRecDepth 100000
theorem places_tells {a : Int} {b : Bool} (a0 : 0 ≤ a) : Tells cx3 5 [.int .u8 a, .bool b] (.bool true) := by
  have ea : a.tmod 7 = a % 7 := Int.tmod_eq_emod_of_nonneg a0
  rcases (by omega : a % 7 = 0 ∨ a % 7 = 1 ∨ a % 7 = 2 ∨ a % 7 = 3 ∨ a % 7 = 4 ∨ a % 7 = 5 ∨ a % 7 = 6) with h | h | h | h | h | h | h
  · cases b
    · exact places_case (ea.trans h) (o_0_false a)
    · exact places_case (ea.trans h) (o_0_true a)
  · cases b
    · exact places_case (ea.trans h) (o_1_false a)
    · exact places_case (ea.trans h) (o_1_true a)
  · cases b
    · exact places_case (ea.trans h) (o_2_false a)
    · exact places_case (ea.trans h) (o_2_true a)
  · cases b
    · exact places_case (ea.trans h) (o_3_false a)
    · exact places_case (ea.trans h) (o_3_true a)
  · cases b
    · exact places_case (ea.trans h) (o_4_false a)
    · exact places_case (ea.trans h) (o_4_true a)
  · cases b
    · exact places_case (ea.trans h) (o_5_false a)
    · exact places_case (ea.trans h) (o_5_true a)
  · cases b
    · exact places_case (ea.trans h) (o_6_false a)
    · exact places_case (ea.trans h) (o_6_true a)
end Go.Abs.SeatB
