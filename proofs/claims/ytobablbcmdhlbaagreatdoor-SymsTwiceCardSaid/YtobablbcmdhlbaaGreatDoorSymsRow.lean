/-
  Syms: the listed variables, read: the evaluator's globals are told by a world that meets the rows' list; and the witness's world.
-/
import Derived.Test.YtobablbcmdhlbaaGreatDoorSymsBase
import Derived.Test.YtobablbcmdhlbaaGreatDoorAbs36
import Derived.Test.YtobablbcmdhlbaaGreatDoorRows
import Derived.Test.YtobablbcmdhlbaaGreatDoorTie
import Derived.Test.YtobablbcmdhlbaaGreatDoorCards
import Derived.ProofKit
import Derived.OpenShut
import Derived.LaidMore
import Derived.Lay
import Derived.SevenTiedAt
import Derived.Stop.Joined
namespace Go.Proofs.YtobablbcmdhlbaaGreatDoor
open Go.ChangeShapes Go.WideShapes Go.ChangeAt Go.RowKit Go.Abs
set_option maxRecDepth 100000

theorem own : ownKnob Tryz.prog.godebug = none := by kernel_rfl

def laid3 : List (String × DataW Unit) := [("caponier/ins.rows", Rows.laid_caponier_ins_rows), ("unicode/utf8.acceptRanges", Rows.laid_unicode_utf8_acceptRanges), ("unicode/utf8.first", Rows.laid_unicode_utf8_first)]

theorem globs {W : World} (h : laidMetH Tryz.prog laid3 W) : Globs SeatA.gl (memOf W) := by
  rw [MakeChecks.laidMetH_plain _ _ _ (by kernel_rfl)] at h
  obtain ⟨ps, hl, _, _⟩ := h
  intro g row hg β
  unfold SeatA.gl at hg
  split at hg
  · cases hg; exact laid_row hl (x := ("caponier/ins.rows", Rows.laid_caponier_ins_rows)) (List.mem_cons_self) (g := 0) (t := 152) (n := 8) (by kernel_rfl) (by kernel_rfl) (by kernel_rfl) (by kernel_rfl) β
  · cases hg; simp only [SeatA.g1, RelRow]
  · cases hg; exact laid_row hl (x := ("unicode/utf8.first", Rows.laid_unicode_utf8_first)) (List.mem_cons_of_mem _ (List.mem_cons_of_mem _ List.mem_cons_self)) (g := 2) (t := 178) (n := 8) (by kernel_rfl) (by kernel_rfl) (by kernel_rfl) (by kernel_rfl) β
  · cases hg; exact laid_row hl (x := ("unicode/utf8.acceptRanges", Rows.laid_unicode_utf8_acceptRanges)) (List.mem_cons_of_mem _ List.mem_cons_self) (g := 3) (t := 181) (n := 8) (by kernel_rfl) (by kernel_rfl) (by kernel_rfl) (by kernel_rfl) β
  · cases hg

/-- The witness's world meets the list. -/
theorem laid_met (os : Os) (args : Array Value) : laidMetH Tryz.prog laid3 ((World.laidAll Tryz.prog os laid3).forCall (fun _ _ => 0) ⟨#[], args, []⟩).memory := by
  rw [MakeChecks.laidMetH_plain _ _ _ (by kernel_rfl)]
  exact laidMet_laidAll _ (by kernel_rfl) (by kernel_rfl)
end Go.Proofs.YtobablbcmdhlbaaGreatDoor
