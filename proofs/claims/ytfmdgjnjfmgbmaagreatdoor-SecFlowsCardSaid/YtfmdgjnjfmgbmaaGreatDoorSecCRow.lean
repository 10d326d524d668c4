/-
  Sec: the listed variables, read: the evaluator's globals are told by a world that meets the rows' list; and the witness's world.
-/
import Derived.Test.YtfmdgjnjfmgbmaaGreatDoorSecCBase
import Derived.Test.YtfmdgjnjfmgbmaaGreatDoorAbsGi
import Derived.Test.YtfmdgjnjfmgbmaaGreatDoorRows
import Derived.Test.YtfmdgjnjfmgbmaaGreatDoorTie
import Derived.Test.YtfmdgjnjfmgbmaaGreatDoorCards
import Derived.ProofKit
import Derived.OpenShut
import Derived.LaidMore
import Derived.Lay
import Derived.SevenTiedAt
import Derived.Stop.Joined
namespace Go.Proofs.YtfmdgjnjfmgbmaaGreatDoor
open Go.ChangeShapes Go.WideShapes Go.ChangeAt Go.RowKit Go.Abs
set_option maxRecDepth 100000

theorem own : ownKnob Tryz.prog.godebug = none := by kernel_rfl

def laid5 : List (String × DataW Unit) := [("math/bits.deBruijn32tab", Rows.laid_math_bits_deBruijn32tab), ("math/bits.deBruijn64tab", Rows.laid_math_bits_deBruijn64tab), ("internal/strconv.uint64pow10", Rows.laid_internal_strconv_uint64pow10), ("unicode/utf8.acceptRanges", Rows.laid_unicode_utf8_acceptRanges), ("unicode/utf8.first", Rows.laid_unicode_utf8_first)]

set_option linter.unusedSectionVars false
variable [Syms] in
theorem globs {W : World} (h : laidMetH Tryz.prog laid5 W) : Globs SeatC.gl (memOf W) := by
  rw [MakeChecks.laidMetH_plain _ _ _ (by kernel_rfl)] at h
  obtain ⟨ps, hl, _, _⟩ := h
  intro g row hg β
  unfold SeatC.gl at hg
  split at hg
  · cases hg; simp only [SeatC.g0, RelRow]
  · cases hg; exact laid_row hl (x := ("internal/strconv.uint64pow10", Rows.laid_internal_strconv_uint64pow10)) (List.mem_cons_of_mem _ (List.mem_cons_of_mem _ List.mem_cons_self)) (g := 1) (t := 186) (n := 8) (by kernel_rfl) (by kernel_rfl) (by kernel_rfl) (by kernel_rfl) β
  · cases hg; exact laid_row hl (x := ("unicode/utf8.first", Rows.laid_unicode_utf8_first)) (List.mem_cons_of_mem _ (List.mem_cons_of_mem _ (List.mem_cons_of_mem _ (List.mem_cons_of_mem _ List.mem_cons_self)))) (g := 2) (t := 190) (n := 8) (by kernel_rfl) (by kernel_rfl) (by kernel_rfl) (by kernel_rfl) β
  · cases hg; exact laid_row hl (x := ("unicode/utf8.acceptRanges", Rows.laid_unicode_utf8_acceptRanges)) (List.mem_cons_of_mem _ (List.mem_cons_of_mem _ (List.mem_cons_of_mem _ List.mem_cons_self))) (g := 3) (t := 193) (n := 8) (by kernel_rfl) (by kernel_rfl) (by kernel_rfl) (by kernel_rfl) β
  · cases hg; exact laid_row hl (x := ("math/bits.deBruijn32tab", Rows.laid_math_bits_deBruijn32tab)) List.mem_cons_self (g := 4) (t := 194) (n := 8) (by kernel_rfl) (by kernel_rfl) (by kernel_rfl) (by kernel_rfl) β
  · cases hg; exact laid_row hl (x := ("math/bits.deBruijn64tab", Rows.laid_math_bits_deBruijn64tab)) (List.mem_cons_of_mem _ List.mem_cons_self) (g := 5) (t := 195) (n := 8) (by kernel_rfl) (by kernel_rfl) (by kernel_rfl) (by kernel_rfl) β
  · cases hg

/-- The witness's world meets the list. -/
theorem laid_met (os : Os) (args : Array Value) : laidMetH Tryz.prog laid5 ((World.laidAll Tryz.prog os laid5).forCall (fun _ _ => 0) ⟨#[], args, []⟩).memory := by
  rw [MakeChecks.laidMetH_plain _ _ _ (by kernel_rfl)]
  exact laidMet_laidAll _ (by kernel_rfl) (by kernel_rfl)
end Go.Proofs.YtfmdgjnjfmgbmaaGreatDoor
