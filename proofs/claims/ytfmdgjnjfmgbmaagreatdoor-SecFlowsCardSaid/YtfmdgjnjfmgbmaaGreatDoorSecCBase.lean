/-
  Sec, with numbers that aren't known: what the functions under the laws answer, told: by the model's own entries, by the shelf's contract, by small tables, by runs of their own.
-/
import Derived.Test.YtfmdgjnjfmgbmaaGreatDoorAbsGi
import Derived.Test.YtfmdgjnjfmgbmaaGreatDoorSecJoin
import Derived.Test.YtfmdgjnjfmgbmaaGreatDoorSeatC
namespace Go.Abs.SeatC
open Go Go.Abs Go.Proofs Go.RowKit
set_option maxRecDepth 100000
set_option linter.unusedSectionVars false
variable [Syms]
noncomputable section

theorem mixed : Tryz.prog.follows .mixedOrders = true := by kernel_rfl

theorem clone80 (args : Array Value) (w : World) : (callFunc 80 args).run Tryz.prog w = ((Extern.MapsClone.clone args).run Tryz.prog w).andThen fun v w' => .ok (.value v) w' := by
  rw [run_callFunc_extern Tryz.func80 (by kernel_rfl) (by kernel_rfl) (by kernel_rfl) (show Extern.find Tryz.f80 = some Extern.MapsClone.clone by kernel_rfl)]

def sums0 : List (Nat × (List V → Option V)) := [(149, idxF), (78, joinF)]
def cx0 : Ctx := { fn := fns, sum := (T.ofList sums0).getR, clone := Nat.beq 80 }
theorem join78 : PureSpec Tryz.prog gl 78 joinF :=
  PureSpec.join ⟨_, Tryz.func78, by kernel_rfl, by kernel_rfl⟩ Tryz.strings_Join_none Tryz.strings_Join
theorem S0 : ∀ p ∈ sums0, PureSpec Tryz.prog gl p.1 p.2 :=
  List.forall_mem_cons.2 ⟨PureSpec.index Tryz.func149 (by kernel_rfl) (by kernel_rfl) (by kernel_rfl) (by kernel_rfl), List.forall_mem_cons.2 ⟨join78, none_of⟩⟩
theorem H0 : CtxOk Tryz.prog gl cx0 := ctx_clone fnsOk S0 clone80

/-- Numbers as texts. -/
theorem digRuns : (List.range 100).all (fun n => testRunR cx0 1000 100 97 [.int .u64 n] (fun u => V.eqF u (.str (digN n)))) = true := by kernel_rfl
theorem dig97 : PureSpec Tryz.prog gl 97 digF :=
  PureSpec.digits (PureSpec.of_tells H0 (drawn_ok mixed H0) fun args r hi hr => by
    unfold digC at hr
    split at hr
    · rename_i n
      split at hr
      · rename_i hn
        cases hr
        have h1 := List.all_eq_true.1 digRuns n.toNat (List.mem_range.2 (by omega))
        rw [Int.toNat_of_nonneg hn.1] at h1
        exact Tells.of_testR (V.eqF_eq · _) h1
      · cases hr
    · cases hr)

/-- Names. -/
def nameT : List (List V × V) := [([.str [118, 48]], .bool true), ([.str [118, 49]], .bool true), ([.str [118, 50]], .bool true), ([.str [118, 51]], .bool true), ([.str [118, 52]], .bool true), ([.str [118, 53]], .bool true), ([.str [118, 54]], .bool true), ([.str [118, 55]], .bool true), ([.str [118, 56]], .bool true), ([.str [118, 57]], .bool true), ([.str [118, 97]], .bool true), ([.str [118, 98]], .bool true), ([.str [118, 99]], .bool true), ([.str [118, 100]], .bool true), ([.str [118, 101]], .bool true), ([.str [118, 102]], .bool true), ([.str [118, 103]], .bool true), ([.str [118, 104]], .bool true), ([.str [118, 105]], .bool true), ([.str [118, 106]], .bool true), ([.str [107]], .bool true), ([.str [102]], .bool true), ([.str [105]], .bool true), ([.str [106]], .bool true), ([.str [120]], .bool true), ([.str [109]], .bool true)]
theorem nameRuns : tabRuns cx0 1000 100 96 nameT = true := by kernel_rfl
def sums1 : List (Nat × (List V → Option V)) := [(96, tabF nameT), (97, digF)] ++ sums0
def cx1 : Ctx := { fn := fns, sum := (T.ofList sums1).getR, clone := Nat.beq 80 }
theorem S1 : ∀ p ∈ sums1, PureSpec Tryz.prog gl p.1 p.2 := List.forall_mem_cons.2 ⟨tab_ok mixed H0 nameRuns, List.forall_mem_cons.2 ⟨dig97, S0⟩⟩
theorem H1 : CtxOk Tryz.prog gl cx1 := ctx_clone fnsOk S1 clone80

def sums2 : List (Nat × (List V → Option V)) := [(116, autoR cx1 1000 100 116), (126, autoR cx1 1000 100 126), (138, autoR cx1 1000 100 138)] ++ sums1
def cx2 : Ctx := { fn := fns, sum := (T.ofList sums2).getR, clone := Nat.beq 80 }
theorem S2 : ∀ p ∈ sums2, PureSpec Tryz.prog gl p.1 p.2 :=
  List.forall_mem_cons.2 ⟨PureSpec.of_autoR mixed H1 1000 100 _, List.forall_mem_cons.2 ⟨PureSpec.of_autoR mixed H1 1000 100 _, List.forall_mem_cons.2 ⟨PureSpec.of_autoR mixed H1 1000 100 _, S1⟩⟩⟩
theorem H2 : CtxOk Tryz.prog gl cx2 := ctx_clone fnsOk S2 clone80

def sums3 : List (Nat × (List V → Option V)) := [(28, autoR cx2 1000 100 28)] ++ sums2
def cx3 : Ctx := { fn := fns, sum := (T.ofList sums3).getR, clone := Nat.beq 80 }
theorem S3 : ∀ p ∈ sums3, PureSpec Tryz.prog gl p.1 p.2 :=
  List.forall_mem_cons.2 ⟨PureSpec.of_autoR mixed H2 1000 100 _, S2⟩
theorem H3 : CtxOk Tryz.prog gl cx3 := ctx_clone fnsOk S3 clone80
end
end Go.Abs.SeatC
