/-
  SecFlows, part 0: the sources as values, what their statements are as texts (a table), and how a case is told by two runs.
-/
import Derived.Test.YtfmdgjnjfmgbmaaGreatDoorSecCAwake
import Derived.Test.YtfmdgjnjfmgbmaaGreatDoorSecSortG
namespace Go.Abs.SeatC
open Go Go.Abs Go.Proofs
set_option maxRecDepth 100000
noncomputable section
/-- The names. -/
def fNm (i : Nat) : List Nat := [118, cond (Nat.blt i 10) (Nat.add 48 i) (Nat.add 87 i)]
def fVar (i : Nat) : List V := [.int .i64 1, .int .u64 0, .str (fNm i), .nilSlice]
def fGet : List V := [.int .i64 2, .int .u64 0, .str [107], .rslice [.int .i64 0, .int .u64 0, .str [], .nilSlice] 0 1 none]
/-- What variable i is set to, ahead of being opened. -/
def fSrc (i : Nat) : List V := Nat.rec fGet (fun j _ => fVar j) i
def fOpen (l : List V) : List V := [.int .i64 6, .int .u64 0, .str [], .rslice l 0 1 none]
def fSet (i : Nat) (o : Bool) : List V := [.int .i64 0, .str (fNm i), .int .i64 0, .rslice (cond o (fOpen (fSrc i)) (fSrc i)) 0 1 none, .nilSlice, .nilSlice]
def fRet (i : Nat) : List V := [.int .i64 4, .str [], .int .i64 0, .rslice (fSrc i) 0 1 none, .nilSlice, .nilSlice]
/-- n more statements from the i-th on, and the last one. -/
def fRows (a : Nat) (n : Nat) : Nat → List V := Nat.rec (motive := fun _ => Nat → List V) fRet (fun _ r i => fSet i (Nat.beq i a) ++ r (Nat.succ i)) n
/-- The source of k variables, the a-th of them opened. -/
def flowP (k a : Nat) : V := .agg [.rslice [.str [107], .int .i64 1] 0 1 none, .rslice [.str [102], .bool false, .nilSlice, .rslice (fRows a k 0) 0 (Nat.succ k) none] 0 1 none]

/-- Statements as texts. -/
def fSrcT (i : Nat) : List Nat := Nat.rec [40, 103, 101, 116, 32, 107, 32, 48, 41] (fun j _ => fNm j) i
def fSetT (i : Nat) (o : Bool) : List Nat := [40, 115, 101, 116, 32] ++ fNm i ++ [32] ++ (cond o ([40, 111, 112, 101, 110, 32] ++ fSrcT i ++ [41]) (fSrcT i)) ++ [41]
def fRetT (i : Nat) : List Nat := [40, 114, 101, 116, 32] ++ fSrcT i ++ [41]
def stmtT : List (List V × V) := ((List.range 20).map fun i => ([.agg (fSet i false)], .str (fSetT i false))) ++ ((List.range 20).map fun i => ([.agg (fSet i true)], .str (fSetT i true))) ++ (List.range 20).map fun i => ([.agg (fRet (Nat.succ i))], .str (fRetT (Nat.succ i)))
theorem stmtRuns1 : tabRuns cx2 1000 100 101 ((List.range 20).map fun i => ([.agg (fSet i false)], .str (fSetT i false))) = true := by kernel_rfl
theorem stmtRuns2 : tabRuns cx2 1000 100 101 ((List.range 20).map fun i => ([.agg (fSet i true)], .str (fSetT i true))) = true := by kernel_rfl
theorem stmtRuns3 : tabRuns cx2 1000 100 101 ((List.range 20).map fun i => ([.agg (fRet (Nat.succ i))], .str (fRetT (Nat.succ i)))) = true := by kernel_rfl
set_option linter.unusedSectionVars false
variable [Syms]
theorem stmt101 : PureSpec Tryz.prog gl 101 (tabF stmtT) := tab_ok mixed H2 (tabRuns_append (tabRuns_append stmtRuns1 stmtRuns2) stmtRuns3)
def sumsF : List (Nat × (List V → Option V)) := [(101, tabF stmtT)] ++ sums2
def cxF : Ctx := { fn := fns, sum := (T.ofList sumsF).getR, clone := Nat.beq 80 }
theorem SF : ∀ p ∈ sumsF, PureSpec Tryz.prog gl p.1 p.2 := List.forall_mem_cons.2 ⟨stmt101, S2⟩
theorem HF : CtxOk Tryz.prog gl cxF := ctx_clone fnsOk SF clone80
/-- The law's context for one source. -/
def sumsR (p : V) : List (Nat × (List V → Option V)) := [(6, tabF awakeT), (23, sortF), (15, tabF [([p], .int .i64 0)])] ++ sumsF
def cxR (p : V) : Ctx := { fn := fns, sum := (T.ofList (sumsR p)).getR, clone := Nat.beq 80 }

def isOk (p : V) : Bool := testRunR cxF 1000 100 15 [p] (fun u => V.eqF u (.int .i64 0))
def isYes (p : V) (args : List V) : Bool := testRunR (cxR p) 1000 100 4 args (fun u => V.eqF u (.bool true))

/-- A case is told by two runs: that its source is right; and the law, which asks that three times. -/
theorem flow_case {p : V} {args : List V} (h1 : isOk p = true) (h2 : isYes p args = true) : PureSpec Tryz.prog gl 4 (tabF [(args, .bool true)]) := by
  have hR : PureSpec Tryz.prog gl 15 (tabF [([p], .int .i64 0)]) := tab_of (m := 1000) (n := 100) mixed HF fun q hq => by
    rw [List.mem_singleton.1 hq]
    exact h1
  have SR : ∀ q ∈ sumsR p, PureSpec Tryz.prog gl q.1 q.2 := List.forall_mem_cons.2 ⟨tab_ok mixed H3 awakeRuns, List.forall_mem_cons.2 ⟨sort23, List.forall_mem_cons.2 ⟨hR, SF⟩⟩⟩
  exact tab_of (m := 1000) (n := 100) mixed (ctx_clone fnsOk SR clone80 : CtxOk Tryz.prog gl (cxR p)) fun q hq => by
    rw [List.mem_singleton.1 hq]
    exact h2

/-- The law's arguments: a byte whose remainder by 20 is j, and any byte, or one whose remainder by j + 1 is a. -/
def flowN (j : Nat) : List V := [.sym (.rem .u8 20 ⟨Int.ofNat j, 0, 0, 0⟩ (Int.ofNat j) (Int.ofNat j) []), .sym (.any .u8 0 255), .bool false]
def flowT (j a : Nat) : List V := [.sym (.rem .u8 20 ⟨Int.ofNat j, 0, 0, 0⟩ (Int.ofNat j) (Int.ofNat j) []), .sym (.rem .u8 (Int.ofNat (Nat.succ j)) ⟨Int.ofNat a, 0, 0, 0⟩ (Int.ofNat a) (Int.ofNat a) []), .bool true]
end
end Go.Abs.SeatC
