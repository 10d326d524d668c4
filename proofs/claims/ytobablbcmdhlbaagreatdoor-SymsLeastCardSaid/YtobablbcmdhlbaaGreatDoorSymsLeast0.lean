/-
  SymsLeast, part 0: the law's text in four pieces; its two remainders are known beforehand.
-/
import Derived.Test.YtobablbcmdhlbaaGreatDoorSymsBase
import Derived.Test.YtobablbcmdhlbaaGreatDoorAbs35
namespace Go.Abs.SeatA
open Go Go.Abs Go.Proofs
set_option maxRecDepth 100000
noncomputable section
def lp (q : Int) : C := (c3.body.front 4).known 21 (.int .i64 q)
def lq (t : Int) : C := (((c3.body.back 4).back 3).front 1).known 55 (.int .i64 t)
def lo (r a g : Int) : OptS := (pieceR cx8 1000 100 (lp r) (init2 .u8 .u8 a g)).andThen (pieceG cx8 1000 100 ((c3.body.back 4).front 3))
def lone (r t a g : Int) : Bool := ((lo r a g).andThen (pieceR cx8 1000 100 (lq t))).test (restR cx8 1000 100 (((c3.body.back 4).back 3).back 1) (yes c3.results))
theorem st1a (a g : Int) : pieceR cx8 1000 100 (c3.body.front 4) (init2 .u8 .u8 a g) = ⟨some (.normal, OptS.st (pieceR cx8 1000 100 (lp ((wrapR .i64 a).tmod 10)) (init2 .u8 .u8 a g)))⟩ := by kernel_rfl
theorem st1b (a g : Int) : pieceR cx8 1000 100 (lp ((wrapR .i64 a).tmod 10)) (init2 .u8 .u8 a g) = ⟨some (.normal, OptS.st (pieceR cx8 1000 100 (lp ((wrapR .i64 a).tmod 10)) (init2 .u8 .u8 a g)))⟩ := by kernel_rfl
theorem st1 (a g : Int) : pieceR cx8 1000 100 (c3.body.front 4) (init2 .u8 .u8 a g) = pieceR cx8 1000 100 (lp ((wrapR .i64 a).tmod 10)) (init2 .u8 .u8 a g) := (st1a a g).trans (st1b a g).symm
theorem st2a_0 (a g : Int) : (lo 0 a g).andThen (pieceR cx8 1000 100 (((c3.body.back 4).back 3).front 1)) = ⟨some (.normal, OptS.st ((lo 0 a g).andThen (pieceR cx8 1000 100 (lq ((wrapR .i64 g).tmod 2)))))⟩ := by kernel_rfl
theorem st2b_0 (a g : Int) : (lo 0 a g).andThen (pieceR cx8 1000 100 (lq ((wrapR .i64 g).tmod 2))) = ⟨some (.normal, OptS.st ((lo 0 a g).andThen (pieceR cx8 1000 100 (lq ((wrapR .i64 g).tmod 2)))))⟩ := by kernel_rfl
theorem st2a_1 (a g : Int) : (lo 1 a g).andThen (pieceR cx8 1000 100 (((c3.body.back 4).back 3).front 1)) = ⟨some (.normal, OptS.st ((lo 1 a g).andThen (pieceR cx8 1000 100 (lq ((wrapR .i64 g).tmod 3)))))⟩ := by kernel_rfl
theorem st2b_1 (a g : Int) : (lo 1 a g).andThen (pieceR cx8 1000 100 (lq ((wrapR .i64 g).tmod 3))) = ⟨some (.normal, OptS.st ((lo 1 a g).andThen (pieceR cx8 1000 100 (lq ((wrapR .i64 g).tmod 3)))))⟩ := by kernel_rfl
theorem st2a_2 (a g : Int) : (lo 2 a g).andThen (pieceR cx8 1000 100 (((c3.body.back 4).back 3).front 1)) = ⟨some (.normal, OptS.st ((lo 2 a g).andThen (pieceR cx8 1000 100 (lq ((wrapR .i64 g).tmod 4)))))⟩ := by kernel_rfl
theorem st2b_2 (a g : Int) : (lo 2 a g).andThen (pieceR cx8 1000 100 (lq ((wrapR .i64 g).tmod 4))) = ⟨some (.normal, OptS.st ((lo 2 a g).andThen (pieceR cx8 1000 100 (lq ((wrapR .i64 g).tmod 4)))))⟩ := by kernel_rfl
theorem st2a_3 (a g : Int) : (lo 3 a g).andThen (pieceR cx8 1000 100 (((c3.body.back 4).back 3).front 1)) = ⟨some (.normal, OptS.st ((lo 3 a g).andThen (pieceR cx8 1000 100 (lq ((wrapR .i64 g).tmod 5)))))⟩ := by kernel_rfl
theorem st2b_3 (a g : Int) : (lo 3 a g).andThen (pieceR cx8 1000 100 (lq ((wrapR .i64 g).tmod 5))) = ⟨some (.normal, OptS.st ((lo 3 a g).andThen (pieceR cx8 1000 100 (lq ((wrapR .i64 g).tmod 5)))))⟩ := by kernel_rfl
theorem st2a_4 (a g : Int) : (lo 4 a g).andThen (pieceR cx8 1000 100 (((c3.body.back 4).back 3).front 1)) = ⟨some (.normal, OptS.st ((lo 4 a g).andThen (pieceR cx8 1000 100 (lq ((wrapR .i64 g).tmod 6)))))⟩ := by kernel_rfl
theorem st2b_4 (a g : Int) : (lo 4 a g).andThen (pieceR cx8 1000 100 (lq ((wrapR .i64 g).tmod 6))) = ⟨some (.normal, OptS.st ((lo 4 a g).andThen (pieceR cx8 1000 100 (lq ((wrapR .i64 g).tmod 6)))))⟩ := by kernel_rfl
theorem st2a_5 (a g : Int) : (lo 5 a g).andThen (pieceR cx8 1000 100 (((c3.body.back 4).back 3).front 1)) = ⟨some (.normal, OptS.st ((lo 5 a g).andThen (pieceR cx8 1000 100 (lq ((wrapR .i64 g).tmod 7)))))⟩ := by kernel_rfl
theorem st2b_5 (a g : Int) : (lo 5 a g).andThen (pieceR cx8 1000 100 (lq ((wrapR .i64 g).tmod 7))) = ⟨some (.normal, OptS.st ((lo 5 a g).andThen (pieceR cx8 1000 100 (lq ((wrapR .i64 g).tmod 7)))))⟩ := by kernel_rfl
theorem st2a_6 (a g : Int) : (lo 6 a g).andThen (pieceR cx8 1000 100 (((c3.body.back 4).back 3).front 1)) = ⟨some (.normal, OptS.st ((lo 6 a g).andThen (pieceR cx8 1000 100 (lq ((wrapR .i64 g).tmod 8)))))⟩ := by kernel_rfl
theorem st2b_6 (a g : Int) : (lo 6 a g).andThen (pieceR cx8 1000 100 (lq ((wrapR .i64 g).tmod 8))) = ⟨some (.normal, OptS.st ((lo 6 a g).andThen (pieceR cx8 1000 100 (lq ((wrapR .i64 g).tmod 8)))))⟩ := by kernel_rfl
theorem st2a_7 (a g : Int) : (lo 7 a g).andThen (pieceR cx8 1000 100 (((c3.body.back 4).back 3).front 1)) = ⟨some (.normal, OptS.st ((lo 7 a g).andThen (pieceR cx8 1000 100 (lq ((wrapR .i64 g).tmod 9)))))⟩ := by kernel_rfl
theorem st2b_7 (a g : Int) : (lo 7 a g).andThen (pieceR cx8 1000 100 (lq ((wrapR .i64 g).tmod 9))) = ⟨some (.normal, OptS.st ((lo 7 a g).andThen (pieceR cx8 1000 100 (lq ((wrapR .i64 g).tmod 9)))))⟩ := by kernel_rfl
theorem st2a_8 (a g : Int) : (lo 8 a g).andThen (pieceR cx8 1000 100 (((c3.body.back 4).back 3).front 1)) = ⟨some (.normal, OptS.st ((lo 8 a g).andThen (pieceR cx8 1000 100 (lq ((wrapR .i64 g).tmod 10)))))⟩ := by kernel_rfl
theorem st2b_8 (a g : Int) : (lo 8 a g).andThen (pieceR cx8 1000 100 (lq ((wrapR .i64 g).tmod 10))) = ⟨some (.normal, OptS.st ((lo 8 a g).andThen (pieceR cx8 1000 100 (lq ((wrapR .i64 g).tmod 10)))))⟩ := by kernel_rfl
theorem st2a_9 (a g : Int) : (lo 9 a g).andThen (pieceR cx8 1000 100 (((c3.body.back 4).back 3).front 1)) = ⟨some (.normal, OptS.st ((lo 9 a g).andThen (pieceR cx8 1000 100 (lq ((wrapR .i64 g).tmod 11)))))⟩ := by kernel_rfl
theorem st2b_9 (a g : Int) : (lo 9 a g).andThen (pieceR cx8 1000 100 (lq ((wrapR .i64 g).tmod 11))) = ⟨some (.normal, OptS.st ((lo 9 a g).andThen (pieceR cx8 1000 100 (lq ((wrapR .i64 g).tmod 11)))))⟩ := by kernel_rfl
theorem s8_3 : cx8.sum 3 = none := by kernel_rfl
theorem f8_3 : cx8.fn 3 = some c3 := by kernel_rfl
/-- A case, told. -/
theorem least_case {a g r t K : Int} (hr : (wrapR .i64 a).tmod 10 = r) (h2a : (lo r a g).andThen (pieceR cx8 1000 100 (((c3.body.back 4).back 3).front 1)) = ⟨some (.normal, OptS.st ((lo r a g).andThen (pieceR cx8 1000 100 (lq ((wrapR .i64 g).tmod K)))))⟩)
    (h2b : (lo r a g).andThen (pieceR cx8 1000 100 (lq ((wrapR .i64 g).tmod K))) = ⟨some (.normal, OptS.st ((lo r a g).andThen (pieceR cx8 1000 100 (lq ((wrapR .i64 g).tmod K)))))⟩)
    (ht : (wrapR .i64 g).tmod K = t) (h3 : lone r t a g = true) : Tells cx8 3 [.int .u8 a, .int .u8 g] (.bool true) := by
  have e1 : pieceR cx8 1000 100 (c3.body.front 4) (init2 .u8 .u8 a g) = pieceR cx8 1000 100 (lp r) (init2 .u8 .u8 a g) := by rw [← hr]; exact st1 a g
  have e2 : (lo r a g).andThen (pieceR cx8 1000 100 (((c3.body.back 4).back 3).front 1)) = (lo r a g).andThen (pieceR cx8 1000 100 (lq t)) := by rw [← ht]; exact h2a.trans h2b.symm
  exact Tells.of_law2 (cx := cx8) (m := 1000) (n := 100) (f := 3) (fn := c3) (p' := lp r) (q' := lq t) 4 3 1 s8_3 f8_3 e1 e2 h3
end
end Go.Abs.SeatA
