/-
  SecCosts, part 0: the law's two bytes, as numbers of which the remainders' bounds alone are known; the cases.
-/
import Derived.Test.YtfmdgjnjfmgbmaaGreatDoorSecCAwake
namespace Go.Abs.SeatC
open Go Go.Abs Go.Proofs
def cn (lo hi : Int) (fs : List (Poly × Int × Int)) : V := .sym (.rem .u8 64 ⟨-1, 1, 0, 0⟩ lo hi fs)
def cm (lo hi : Int) (fs : List (Poly × Int × Int)) : V := .sym (.rem .u8 64 ⟨-1, 0, 1, 0⟩ lo hi fs)
def cc1 : List V := [cn 0 8 [], cm 0 8 []]
def cc2 : List V := [cn 0 8 [], cm 9 63 []]
def cc3 : List V := [cn 9 63 [], cm 0 8 []]
def cc4 : List V := [cn 9 63 [(⟨1, 2, 0, 3⟩, 0, 3998)], cm 9 63 [(⟨1, 2, 0, 3⟩, 0, 3998)]]
def cc5 : List V := [cn 9 63 [(⟨1, 2, 0, 3⟩, 3999, 4000)], cm 9 63 [(⟨1, 2, 0, 3⟩, 3999, 4000)]]
def cc6 : List V := [cn 9 63 [(⟨1, 2, 0, 3⟩, 4001, 100000)], cm 9 63 [(⟨1, 2, 0, 3⟩, 4001, 100000)]]
end Go.Abs.SeatC
