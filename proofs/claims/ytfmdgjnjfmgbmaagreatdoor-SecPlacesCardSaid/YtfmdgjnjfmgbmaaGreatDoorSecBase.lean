/-
  Sec: what the functions under the laws answer, told: by the model's own entries, by the shelf's contract, by small tables, by runs of their own.
-/
import Derived.Test.YtfmdgjnjfmgbmaaGreatDoorAbsJoin
import Derived.Test.YtfmdgjnjfmgbmaaGreatDoorSecJoin
import Derived.Test.YtfmdgjnjfmgbmaaGreatDoorSeatB
namespace Go.Abs.SeatB
open Go Go.Abs Go.Proofs Go.RowKit
set_option maxRecDepth 100000
noncomputable section

theorem mixed : Tryz.prog.follows .mixedOrders = true := by kernel_rfl

theorem clone80 (args : Array Value) (w : World) : (callFunc 80 args).run Tryz.prog w = ((Extern.MapsClone.clone args).run Tryz.prog w).andThen fun v w' => .ok (.value v) w' := by
  rw [run_callFunc_extern Tryz.func80 (by kernel_rfl) (by kernel_rfl) (by kernel_rfl) (show Extern.find Tryz.f80 = some Extern.MapsClone.clone by kernel_rfl)]

def sums0 : List (Nat × (List V → Option V)) := [(149, idxF), (78, joinF)]
def cx0 : Ctx := { fn := fns, sum := (T.ofList sums0).getR, clone := Nat.beq 80 }
theorem join78 : PureSpec Tryz.prog gl 78 joinF :=
  PureSpec.join ⟨_, Tryz.func78, by kernel_rfl, by kernel_rfl⟩ Tryz.strings_Join_none Tryz.strings_Join
theorem S0 : ∀ p ∈ sums0, PureSpec Tryz.prog gl p.1 p.2 :=
  List.forall_mem_cons.2 ⟨PureSpec.index Tryz.func149 (by kernel_rfl) (by kernel_rfl) (by kernel_rfl) (by kernel_rfl), List.forall_mem_cons.2 ⟨join78, none_of⟩⟩
theorem H0 : CtxOk Tryz.prog gl cx0 := ctx_clone fnsOk S0 clone80

def sums1 : List (Nat × (List V → Option V)) := [(116, autoR cx0 1000 100 116), (126, autoR cx0 1000 100 126), (138, autoR cx0 1000 100 138)] ++ sums0
def cx1 : Ctx := { fn := fns, sum := (T.ofList sums1).getR, clone := Nat.beq 80 }
theorem S1 : ∀ p ∈ sums1, PureSpec Tryz.prog gl p.1 p.2 :=
  List.forall_mem_cons.2 ⟨PureSpec.of_autoR mixed H0 1000 100 _, List.forall_mem_cons.2 ⟨PureSpec.of_autoR mixed H0 1000 100 _, List.forall_mem_cons.2 ⟨PureSpec.of_autoR mixed H0 1000 100 _, S0⟩⟩⟩
theorem H1 : CtxOk Tryz.prog gl cx1 := ctx_clone fnsOk S1 clone80

def sums2 : List (Nat × (List V → Option V)) := [(28, autoR cx1 1000 100 28)] ++ sums1
def cx2 : Ctx := { fn := fns, sum := (T.ofList sums2).getR, clone := Nat.beq 80 }
theorem S2 : ∀ p ∈ sums2, PureSpec Tryz.prog gl p.1 p.2 :=
  List.forall_mem_cons.2 ⟨PureSpec.of_autoR mixed H1 1000 100 _, S1⟩
theorem H2 : CtxOk Tryz.prog gl cx2 := ctx_clone fnsOk S2 clone80
end
end Go.Abs.SeatB
