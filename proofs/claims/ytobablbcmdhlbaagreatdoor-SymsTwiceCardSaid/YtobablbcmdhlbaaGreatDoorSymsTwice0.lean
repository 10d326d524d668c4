/-
  SymsTwice, part 0: the law's text in pieces; its two remainders are known beforehand.
-/
import Derived.Test.YtobablbcmdhlbaaGreatDoorSymsBase
import Derived.Test.YtobablbcmdhlbaaGreatDoorAbs37
namespace Go.Abs.SeatA
open Go Go.Abs Go.Proofs
set_option maxRecDepth 100000
noncomputable section
def tp (q : Int) : C := (c4.body.front 4).known 22 (.int .i64 q)
def tL : List (O × List Nat) := match ((c4.body.back 4).back 6).front 1 with
  | .seq (.drawn l) _ => l
  | _ => []
def tL1 : List (O × List Nat) := tL.take 6
def tL2 : List (O × List Nat) := tL.drop 7
def tlo (k a m : Int) : OptS := (pieceR cx8 1000 100 (tp k) (init2 .u8 .u8 a m)).andThen (pieceG cx8 1000 100 ((c4.body.back 4).front 6))
def tfin (t : Int) (s : FSt) : Bool := (pieceR cx8 1000 100 (.seq (.drawn (tL1 ++ (⟨some 87, .mov (.const (.int .i64 t)), none⟩, [5, 4]) :: tL2)) .skip) s).test (restR cx8 1000 100 (((c4.body.back 4).back 6).back 1) (yes c4.results))
def tten : List Int := [0, 1, 2, 3, 4, 5, 6, 7, 8, 9]
def tone (k a m : Int) : Bool := (tlo k a m).test fun s => tten.all fun t => tfin t s
def t86 (s : FSt) : Option V := (actAllR cx8 s.nid 16 tL1 0 (s.env, s.h)).map fun r => X.valR (.tmp 86) r.1
theorem tq : ((c4.body.back 4).back 6).front 1 = .seq (.drawn (tL1 ++ (⟨some 87, .bin .rem (.tmp 86) (.const (.int .i64 10)), none⟩, [5, 4]) :: tL2)) .skip := by kernel_rfl
theorem tlen : (tL1 ++ ((⟨some 87, .bin .rem (.tmp 86) (.const (.int .i64 10)), none⟩ : O), [5, 4]) :: tL2).length = 16 := by kernel_rfl
theorem ts1a (a g : Int) : pieceR cx8 1000 100 (c4.body.front 4) (init2 .u8 .u8 a g) = ⟨some (.normal, OptS.st (pieceR cx8 1000 100 (tp ((wrapR .i64 a).tmod 11)) (init2 .u8 .u8 a g)))⟩ := by kernel_rfl
theorem ts1b (a g : Int) : pieceR cx8 1000 100 (tp ((wrapR .i64 a).tmod 11)) (init2 .u8 .u8 a g) = ⟨some (.normal, OptS.st (pieceR cx8 1000 100 (tp ((wrapR .i64 a).tmod 11)) (init2 .u8 .u8 a g)))⟩ := by kernel_rfl
theorem ts1 (a g : Int) : pieceR cx8 1000 100 (c4.body.front 4) (init2 .u8 .u8 a g) = pieceR cx8 1000 100 (tp ((wrapR .i64 a).tmod 11)) (init2 .u8 .u8 a g) := (ts1a a g).trans (ts1b a g).symm
theorem s8_4 : cx8.sum 4 = none := by kernel_rfl
theorem f8_4 : cx8.fn 4 = some c4 := by kernel_rfl
/-- A case, told. -/
theorem twice_case {a m k t : Int} (hk : (wrapR .i64 a).tmod 11 = k) (hx : t86 (OptS.st (tlo k a m)) = some (.int .i64 (wrapR .i64 m))) (ht : (wrapR .i64 m).tmod 10 = t) (hm : t ∈ tten) (h3 : tone k a m = true) : Tells cx8 4 [.int .u8 a, .int .u8 m] (.bool true) := by
  have e1 : pieceR cx8 1000 100 (c4.body.front 4) (init2 .u8 .u8 a m) = pieceR cx8 1000 100 (tp k) (init2 .u8 .u8 a m) := by rw [← hk]; exact ts1 a m
  have hv : Abs.binOp .rem (.int .i64 (wrapR .i64 m)) (.int .i64 10) = some (.int .i64 t) := by
    simp only [Abs.binOp, if_true, intOp]
    rw [← ht]
    rfl
  exact Tells.of_drawn3 (cx := cx8) (m := 1000) (n := 100) (f := 4) (fn := c4) (p' := tp k) (lo := tlo k a m) 4 6 s8_4 f8_4 e1 rfl tq tlen hx hv (test_all h3 hm)
end
end Go.Abs.SeatA
