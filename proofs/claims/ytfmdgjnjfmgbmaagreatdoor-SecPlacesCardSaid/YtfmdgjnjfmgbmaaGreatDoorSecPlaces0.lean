/-
  SecPlaces, part 0: the law's text in two pieces; its remainder is known beforehand.
-/
import Derived.Test.YtfmdgjnjfmgbmaaGreatDoorSecAwake
import Derived.Test.YtfmdgjnjfmgbmaaGreatDoorAbsHalve
namespace Go.Abs.SeatB
open Go Go.Abs Go.Proofs
set_option maxRecDepth 100000
noncomputable section
def b5 : C := c5.body.halve 36 5
def init1 (a : Int) (b : Bool) : FSt := { env := initEnv 0 [.int .u8 a, .bool b] .leaf, h := .leaf, nid := 0, dfr := [] }
def lp (q : Int) : C := (b5.front 6).known 53 (.int .u8 q)
def lone (r : Int) (b : Bool) (a : Int) : Bool := (pieceR cx3 1000 100 (lp r) (init1 a b)).test (restR cx3 1000 100 (b5.back 6) (yes c5.results))
theorem st1a_t (a : Int) : pieceR cx3 1000 100 (b5.front 6) (init1 a true) = ⟨some (.normal, OptS.st (pieceR cx3 1000 100 (lp (a.tmod 7)) (init1 a true)))⟩ := by kernel_rfl
theorem st1b_t (a : Int) : pieceR cx3 1000 100 (lp (a.tmod 7)) (init1 a true) = ⟨some (.normal, OptS.st (pieceR cx3 1000 100 (lp (a.tmod 7)) (init1 a true)))⟩ := by kernel_rfl
theorem st1a_f (a : Int) : pieceR cx3 1000 100 (b5.front 6) (init1 a false) = ⟨some (.normal, OptS.st (pieceR cx3 1000 100 (lp (a.tmod 7)) (init1 a false)))⟩ := by kernel_rfl
theorem st1b_f (a : Int) : pieceR cx3 1000 100 (lp (a.tmod 7)) (init1 a false) = ⟨some (.normal, OptS.st (pieceR cx3 1000 100 (lp (a.tmod 7)) (init1 a false)))⟩ := by kernel_rfl
theorem st1 (a : Int) (b : Bool) : pieceR cx3 1000 100 (b5.front 6) (init1 a b) = pieceR cx3 1000 100 (lp (a.tmod 7)) (init1 a b) := by
  cases b
  · exact (st1a_f a).trans (st1b_f a).symm
  · exact (st1a_t a).trans (st1b_t a).symm
theorem s3_5 : cx3.sum 5 = none := by kernel_rfl
theorem f3_5 : cx3.fn 5 = some c5 := by kernel_rfl
/-- A case, told. -/
theorem places_case {a r : Int} {b : Bool} (hr : a.tmod 7 = r) (h3 : lone r b a = true) : Tells cx3 5 [.int .u8 a, .bool b] (.bool true) := by
  refine Tells.of_body (m := 1000) (n := 100) s3_5 rfl f3_5 ?_
  obtain ⟨s1, e1, hr2⟩ := test_some h3
  have h1 := st1 a b
  rw [hr] at h1
  have e2 := h1.trans e1
  rw [pieceR_eq] at e2
  rw [restR_eq] at hr2
  rw [← evC_halve (k := 36) 5 c5.body]
  show evC (Ω := Prop) cx3 (callF cx3 1000 100) noYld 1000 b5 _ _
  rw [evC_cut 6]
  exact seq_piece e2 (rest_ok hr2)
end
end Go.Abs.SeatB
