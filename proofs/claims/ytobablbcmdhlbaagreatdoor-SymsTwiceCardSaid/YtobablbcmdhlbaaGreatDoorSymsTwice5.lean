/-
  SymsTwice, part 5: all cases put together.
-/
import Derived.Test.YtobablbcmdhlbaaGreatDoorSymsTwice1
import Derived.Test.YtobablbcmdhlbaaGreatDoorSymsTwice2
import Derived.Test.YtobablbcmdhlbaaGreatDoorSymsTwice3
import Derived.Test.YtobablbcmdhlbaaGreatDoorSymsTwice4
namespace Go.Abs.SeatA
open Go Go.Abs Go.Proofs
theorem twice_tells {a g : Int} (a0 : 0 ≤ a) (a1 : a < 256) (g0 : 0 ≤ g) (g1 : g < 256) : Tells cx8 4 [.int .u8 a, .int .u8 g] (.bool true) := by
  have ea : (wrapR .i64 a).tmod 11 = a % 11 := by rw [wrapR_small a0 (by omega)]; exact Int.tmod_eq_emod_of_nonneg a0
  have eg : (wrapR .i64 g).tmod 10 = g % 10 := by rw [wrapR_small g0 (by omega)]; exact Int.tmod_eq_emod_of_nonneg g0
  have hm : g % 10 ∈ tten := by
    have : g % 10 = 0 ∨ g % 10 = 1 ∨ g % 10 = 2 ∨ g % 10 = 3 ∨ g % 10 = 4 ∨ g % 10 = 5 ∨ g % 10 = 6 ∨ g % 10 = 7 ∨ g % 10 = 8 ∨ g % 10 = 9 := by omega
    simpa [tten] using this
  rcases (by omega : a % 11 = 0 ∨ a % 11 = 1 ∨ a % 11 = 2 ∨ a % 11 = 3 ∨ a % 11 = 4 ∨ a % 11 = 5 ∨ a % 11 = 6 ∨ a % 11 = 7 ∨ a % 11 = 8 ∨ a % 11 = 9 ∨ a % 11 = 10) with h | h | h | h | h | h | h | h | h | h | h
  · exact twice_case (ea.trans h) (t86_0 a g) eg hm (tone_0 a g)
  · exact twice_case (ea.trans h) (t86_1 a g) eg hm (tone_1 a g)
  · exact twice_case (ea.trans h) (t86_2 a g) eg hm (tone_2 a g)
  · exact twice_case (ea.trans h) (t86_3 a g) eg hm (tone_3 a g)
  · exact twice_case (ea.trans h) (t86_4 a g) eg hm (tone_4 a g)
  · exact twice_case (ea.trans h) (t86_5 a g) eg hm (tone_5 a g)
  · exact twice_case (ea.trans h) (t86_6 a g) eg hm (tone_6 a g)
  · exact twice_case (ea.trans h) (t86_7 a g) eg hm (tone_7 a g)
  · exact twice_case (ea.trans h) (t86_8 a g) eg hm (tone_8 a g)
  · exact twice_case (ea.trans h) (t86_9 a g) eg hm (tone_9 a g)
  · exact twice_case (ea.trans h) (t86_10 a g) eg hm (tone_10 a g)
end Go.Abs.SeatA
