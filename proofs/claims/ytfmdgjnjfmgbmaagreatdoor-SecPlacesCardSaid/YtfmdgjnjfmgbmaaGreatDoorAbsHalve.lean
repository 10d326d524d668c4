/-
  ABS: a text's operations, cut in two.
-/
import Derived.Test.YtfmdgjnjfmgbmaaGreatDoorAbs35
namespace Go.Abs
open Go

section
variable {Ω : Type} [Ans Ω]

theorem evOps_append {call : FuncId → List V → Heap → Nat → (End → Heap → Nat → Ω) → Ω} {yld : Yld Ω} {l2 : List O} {K : Ex → FSt → Ω} : ∀ (l1 : List O) (st : FSt), evOps call yld (l1 ++ l2) st K = evOps call yld l1 st fun x s => match x with | .normal => evOps call yld l2 s K | x => K x s
  | [], st => rfl
  | o :: l1, st => by
    have ih := fun s => evOps_append (call := call) (yld := yld) (l2 := l2) (K := K) l1 s
    rw [List.cons_append]
    unfold evOps
    simp only [ih]

/-- The i-th part's operations cut behind the k-th. -/
def C.halve (k : Nat) : Nat → C → C
  | 0, .seq (.ops l) c => .seq (.ops (l.take k)) (.seq (.ops (l.drop k)) c)
  | i + 1, .seq a c => .seq a (c.halve k i)
  | _, c => c

theorem evC_halve {cx : Ctx} {call : Yld Ω → FuncId → List V → Heap → Nat → (End → Heap → Nat → Ω) → Ω} {yld : Yld Ω} {m k : Nat} : ∀ (i : Nat) (c : C) (st : FSt) (K : Ex → FSt → Ω), evC cx call yld m (c.halve k i) st K = evC cx call yld m c st K
  | 0, c, st, K => by
    cases c with
    | seq a c =>
      cases a with
      | ops l =>
        simp only [C.halve, evC]
        conv => rhs; rw [← List.take_append_drop k l]
        rw [evOps_append]
        congr 1
        funext x s
        cases x <;> rfl
      | _ => rfl
    | _ => rfl
  | i + 1, c, st, K => by
    cases c with
    | seq a c =>
      simp only [C.halve, evC]
      congr 1
      funext x s
      cases x <;> first | rfl | exact evC_halve i c s K
    | _ => rfl
end
end Go.Abs
