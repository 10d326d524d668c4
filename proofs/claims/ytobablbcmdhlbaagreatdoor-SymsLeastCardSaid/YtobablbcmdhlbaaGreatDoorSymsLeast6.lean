/-
  SymsLeast, part 6: all cases put together.
-/
import Derived.Test.YtobablbcmdhlbaaGreatDoorSymsLeast1
import Derived.Test.YtobablbcmdhlbaaGreatDoorSymsLeast2
import Derived.Test.YtobablbcmdhlbaaGreatDoorSymsLeast3
import Derived.Test.YtobablbcmdhlbaaGreatDoorSymsLeast4
import Derived.Test.YtobablbcmdhlbaaGreatDoorSymsLeast5
namespace Go.Abs.SeatA
open Go Go.Abs Go.Proofs
theorem least_tells {a g : Int} (a0 : 0 ≤ a) (a1 : a < 256) (g0 : 0 ≤ g) (g1 : g < 256) : Tells cx8 3 [.int .u8 a, .int .u8 g] (.bool true) := by
  have ea : (wrapR .i64 a).tmod 10 = a % 10 := by rw [wrapR_small a0 (by omega)]; exact Int.tmod_eq_emod_of_nonneg a0
  have eg : ∀ K : Int, (wrapR .i64 g).tmod K = g % K := fun K => by rw [wrapR_small g0 (by omega)]; exact Int.tmod_eq_emod_of_nonneg g0
  rcases (by omega : a % 10 = 0 ∨ a % 10 = 1 ∨ a % 10 = 2 ∨ a % 10 = 3 ∨ a % 10 = 4 ∨ a % 10 = 5 ∨ a % 10 = 6 ∨ a % 10 = 7 ∨ a % 10 = 8 ∨ a % 10 = 9) with h | h | h | h | h | h | h | h | h | h
  · rcases (by omega : g % 2 = 0 ∨ g % 2 = 1) with k | k
    · exact least_case (ea.trans h) (st2a_0 a g) (st2b_0 a g) ((eg 2).trans k) (o_0_0 a g)
    · exact least_case (ea.trans h) (st2a_0 a g) (st2b_0 a g) ((eg 2).trans k) (o_0_1 a g)
  · rcases (by omega : g % 3 = 0 ∨ g % 3 = 1 ∨ g % 3 = 2) with k | k | k
    · exact least_case (ea.trans h) (st2a_1 a g) (st2b_1 a g) ((eg 3).trans k) (o_1_0 a g)
    · exact least_case (ea.trans h) (st2a_1 a g) (st2b_1 a g) ((eg 3).trans k) (o_1_1 a g)
    · exact least_case (ea.trans h) (st2a_1 a g) (st2b_1 a g) ((eg 3).trans k) (o_1_2 a g)
  · rcases (by omega : g % 4 = 0 ∨ g % 4 = 1 ∨ g % 4 = 2 ∨ g % 4 = 3) with k | k | k | k
    · exact least_case (ea.trans h) (st2a_2 a g) (st2b_2 a g) ((eg 4).trans k) (o_2_0 a g)
    · exact least_case (ea.trans h) (st2a_2 a g) (st2b_2 a g) ((eg 4).trans k) (o_2_1 a g)
    · exact least_case (ea.trans h) (st2a_2 a g) (st2b_2 a g) ((eg 4).trans k) (o_2_2 a g)
    · exact least_case (ea.trans h) (st2a_2 a g) (st2b_2 a g) ((eg 4).trans k) (o_2_3 a g)
  · rcases (by omega : g % 5 = 0 ∨ g % 5 = 1 ∨ g % 5 = 2 ∨ g % 5 = 3 ∨ g % 5 = 4) with k | k | k | k | k
    · exact least_case (ea.trans h) (st2a_3 a g) (st2b_3 a g) ((eg 5).trans k) (o_3_0 a g)
    · exact least_case (ea.trans h) (st2a_3 a g) (st2b_3 a g) ((eg 5).trans k) (o_3_1 a g)
    · exact least_case (ea.trans h) (st2a_3 a g) (st2b_3 a g) ((eg 5).trans k) (o_3_2 a g)
    · exact least_case (ea.trans h) (st2a_3 a g) (st2b_3 a g) ((eg 5).trans k) (o_3_3 a g)
    · exact least_case (ea.trans h) (st2a_3 a g) (st2b_3 a g) ((eg 5).trans k) (o_3_4 a g)
  · rcases (by omega : g % 6 = 0 ∨ g % 6 = 1 ∨ g % 6 = 2 ∨ g % 6 = 3 ∨ g % 6 = 4 ∨ g % 6 = 5) with k | k | k | k | k | k
    · exact least_case (ea.trans h) (st2a_4 a g) (st2b_4 a g) ((eg 6).trans k) (o_4_0 a g)
    · exact least_case (ea.trans h) (st2a_4 a g) (st2b_4 a g) ((eg 6).trans k) (o_4_1 a g)
    · exact least_case (ea.trans h) (st2a_4 a g) (st2b_4 a g) ((eg 6).trans k) (o_4_2 a g)
    · exact least_case (ea.trans h) (st2a_4 a g) (st2b_4 a g) ((eg 6).trans k) (o_4_3 a g)
    · exact least_case (ea.trans h) (st2a_4 a g) (st2b_4 a g) ((eg 6).trans k) (o_4_4 a g)
    · exact least_case (ea.trans h) (st2a_4 a g) (st2b_4 a g) ((eg 6).trans k) (o_4_5 a g)
  · rcases (by omega : g % 7 = 0 ∨ g % 7 = 1 ∨ g % 7 = 2 ∨ g % 7 = 3 ∨ g % 7 = 4 ∨ g % 7 = 5 ∨ g % 7 = 6) with k | k | k | k | k | k | k
    · exact least_case (ea.trans h) (st2a_5 a g) (st2b_5 a g) ((eg 7).trans k) (o_5_0 a g)
    · exact least_case (ea.trans h) (st2a_5 a g) (st2b_5 a g) ((eg 7).trans k) (o_5_1 a g)
    · exact least_case (ea.trans h) (st2a_5 a g) (st2b_5 a g) ((eg 7).trans k) (o_5_2 a g)
    · exact least_case (ea.trans h) (st2a_5 a g) (st2b_5 a g) ((eg 7).trans k) (o_5_3 a g)
    · exact least_case (ea.trans h) (st2a_5 a g) (st2b_5 a g) ((eg 7).trans k) (o_5_4 a g)
    · exact least_case (ea.trans h) (st2a_5 a g) (st2b_5 a g) ((eg 7).trans k) (o_5_5 a g)
    · exact least_case (ea.trans h) (st2a_5 a g) (st2b_5 a g) ((eg 7).trans k) (o_5_6 a g)
  · rcases (by omega : g % 8 = 0 ∨ g % 8 = 1 ∨ g % 8 = 2 ∨ g % 8 = 3 ∨ g % 8 = 4 ∨ g % 8 = 5 ∨ g % 8 = 6 ∨ g % 8 = 7) with k | k | k | k | k | k | k | k
    · exact least_case (ea.trans h) (st2a_6 a g) (st2b_6 a g) ((eg 8).trans k) (o_6_0 a g)
    · exact least_case (ea.trans h) (st2a_6 a g) (st2b_6 a g) ((eg 8).trans k) (o_6_1 a g)
    · exact least_case (ea.trans h) (st2a_6 a g) (st2b_6 a g) ((eg 8).trans k) (o_6_2 a g)
    · exact least_case (ea.trans h) (st2a_6 a g) (st2b_6 a g) ((eg 8).trans k) (o_6_3 a g)
    · exact least_case (ea.trans h) (st2a_6 a g) (st2b_6 a g) ((eg 8).trans k) (o_6_4 a g)
    · exact least_case (ea.trans h) (st2a_6 a g) (st2b_6 a g) ((eg 8).trans k) (o_6_5 a g)
    · exact least_case (ea.trans h) (st2a_6 a g) (st2b_6 a g) ((eg 8).trans k) (o_6_6 a g)
    · exact least_case (ea.trans h) (st2a_6 a g) (st2b_6 a g) ((eg 8).trans k) (o_6_7 a g)
  · rcases (by omega : g % 9 = 0 ∨ g % 9 = 1 ∨ g % 9 = 2 ∨ g % 9 = 3 ∨ g % 9 = 4 ∨ g % 9 = 5 ∨ g % 9 = 6 ∨ g % 9 = 7 ∨ g % 9 = 8) with k | k | k | k | k | k | k | k | k
    · exact least_case (ea.trans h) (st2a_7 a g) (st2b_7 a g) ((eg 9).trans k) (o_7_0 a g)
    · exact least_case (ea.trans h) (st2a_7 a g) (st2b_7 a g) ((eg 9).trans k) (o_7_1 a g)
    · exact least_case (ea.trans h) (st2a_7 a g) (st2b_7 a g) ((eg 9).trans k) (o_7_2 a g)
    · exact least_case (ea.trans h) (st2a_7 a g) (st2b_7 a g) ((eg 9).trans k) (o_7_3 a g)
    · exact least_case (ea.trans h) (st2a_7 a g) (st2b_7 a g) ((eg 9).trans k) (o_7_4 a g)
    · exact least_case (ea.trans h) (st2a_7 a g) (st2b_7 a g) ((eg 9).trans k) (o_7_5 a g)
    · exact least_case (ea.trans h) (st2a_7 a g) (st2b_7 a g) ((eg 9).trans k) (o_7_6 a g)
    · exact least_case (ea.trans h) (st2a_7 a g) (st2b_7 a g) ((eg 9).trans k) (o_7_7 a g)
    · exact least_case (ea.trans h) (st2a_7 a g) (st2b_7 a g) ((eg 9).trans k) (o_7_8 a g)
  · rcases (by omega : g % 10 = 0 ∨ g % 10 = 1 ∨ g % 10 = 2 ∨ g % 10 = 3 ∨ g % 10 = 4 ∨ g % 10 = 5 ∨ g % 10 = 6 ∨ g % 10 = 7 ∨ g % 10 = 8 ∨ g % 10 = 9) with k | k | k | k | k | k | k | k | k | k
    · exact least_case (ea.trans h) (st2a_8 a g) (st2b_8 a g) ((eg 10).trans k) (o_8_0 a g)
    · exact least_case (ea.trans h) (st2a_8 a g) (st2b_8 a g) ((eg 10).trans k) (o_8_1 a g)
    · exact least_case (ea.trans h) (st2a_8 a g) (st2b_8 a g) ((eg 10).trans k) (o_8_2 a g)
    · exact least_case (ea.trans h) (st2a_8 a g) (st2b_8 a g) ((eg 10).trans k) (o_8_3 a g)
    · exact least_case (ea.trans h) (st2a_8 a g) (st2b_8 a g) ((eg 10).trans k) (o_8_4 a g)
    · exact least_case (ea.trans h) (st2a_8 a g) (st2b_8 a g) ((eg 10).trans k) (o_8_5 a g)
    · exact least_case (ea.trans h) (st2a_8 a g) (st2b_8 a g) ((eg 10).trans k) (o_8_6 a g)
    · exact least_case (ea.trans h) (st2a_8 a g) (st2b_8 a g) ((eg 10).trans k) (o_8_7 a g)
    · exact least_case (ea.trans h) (st2a_8 a g) (st2b_8 a g) ((eg 10).trans k) (o_8_8 a g)
    · exact least_case (ea.trans h) (st2a_8 a g) (st2b_8 a g) ((eg 10).trans k) (o_8_9 a g)
  · rcases (by omega : g % 11 = 0 ∨ g % 11 = 1 ∨ g % 11 = 2 ∨ g % 11 = 3 ∨ g % 11 = 4 ∨ g % 11 = 5 ∨ g % 11 = 6 ∨ g % 11 = 7 ∨ g % 11 = 8 ∨ g % 11 = 9 ∨ g % 11 = 10) with k | k | k | k | k | k | k | k | k | k | k
    · exact least_case (ea.trans h) (st2a_9 a g) (st2b_9 a g) ((eg 11).trans k) (o_9_0 a g)
    · exact least_case (ea.trans h) (st2a_9 a g) (st2b_9 a g) ((eg 11).trans k) (o_9_1 a g)
    · exact least_case (ea.trans h) (st2a_9 a g) (st2b_9 a g) ((eg 11).trans k) (o_9_2 a g)
    · exact least_case (ea.trans h) (st2a_9 a g) (st2b_9 a g) ((eg 11).trans k) (o_9_3 a g)
    · exact least_case (ea.trans h) (st2a_9 a g) (st2b_9 a g) ((eg 11).trans k) (o_9_4 a g)
    · exact least_case (ea.trans h) (st2a_9 a g) (st2b_9 a g) ((eg 11).trans k) (o_9_5 a g)
    · exact least_case (ea.trans h) (st2a_9 a g) (st2b_9 a g) ((eg 11).trans k) (o_9_6 a g)
    · exact least_case (ea.trans h) (st2a_9 a g) (st2b_9 a g) ((eg 11).trans k) (o_9_7 a g)
    · exact least_case (ea.trans h) (st2a_9 a g) (st2b_9 a g) ((eg 11).trans k) (o_9_8 a g)
    · exact least_case (ea.trans h) (st2a_9 a g) (st2b_9 a g) ((eg 11).trans k) (o_9_9 a g)
    · exact least_case (ea.trans h) (st2a_9 a g) (st2b_9 a g) ((eg 11).trans k) (o_9_10 a g)
end Go.Abs.SeatA
