/-
  ABS, part 35: a law of two numbers, told in pieces.
-/
import Derived.Test.YtfmdgjnjfmgbmaaGreatDoorAbs34
namespace Go.Abs
open Go
set_option linter.unusedSectionVars false
variable [Syms]

def OptS.st (o : OptS) : FSt := match o.v with
  | some (_, s) => s
  | none => { env := .leaf, h := .leaf, nid := 0, dfr := [] }

theorem Tells.of_law2 {cx : Ctx} {m n : Nat} {f : FuncId} {fn : AFn} {k l : IntKind} {a b : Int} {p' q' : C} (i j z : Nat) (hs : cx.sum f = none) (hcl : cx.clone f = false) (hf : cx.fn f = some fn)
    (h1 : pieceR cx m n (fn.body.front i) (init2 k l a b) = pieceR cx m n p' (init2 k l a b))
    (h2 : ((pieceR cx m n p' (init2 k l a b)).andThen (pieceG cx m n ((fn.body.back i).front j))).andThen (pieceR cx m n (((fn.body.back i).back j).front z)) = ((pieceR cx m n p' (init2 k l a b)).andThen (pieceG cx m n ((fn.body.back i).front j))).andThen (pieceR cx m n q'))
    (h3 : (((pieceR cx m n p' (init2 k l a b)).andThen (pieceG cx m n ((fn.body.back i).front j))).andThen (pieceR cx m n q')).test (restR cx m n (((fn.body.back i).back j).back z) (yes fn.results)) = true) :
    Tells cx f [.int k a, .int l b] (.bool true) :=
  Tells.of_body hs hcl hf (law_two i j z h1 h2 h3)

theorem wrapR_small {a : Int} (h0 : 0 ≤ a) (h1 : a < 9223372036854775808) : wrapR .i64 a = a := by
  rw [wrapR_eq]
  unfold IntKind.wrap
  simp [IntKind.bits, IntKind.signed]
  omega
end Go.Abs
