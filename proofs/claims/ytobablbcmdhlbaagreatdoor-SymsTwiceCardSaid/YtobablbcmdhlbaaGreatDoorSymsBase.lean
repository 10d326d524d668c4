/-
  Syms: what the functions under the laws answer, told: by runs of their own, or by small tables.
-/
import Derived.Test.YtobablbcmdhlbaaGreatDoorAbs34
import Derived.Test.YtobablbcmdhlbaaGreatDoorSeatA3
namespace Go.Abs.SeatA
open Go Go.Abs Go.Proofs
set_option maxRecDepth 100000
noncomputable section

theorem mixed : Tryz.prog.follows .mixedOrders = true := by kernel_rfl

def sums0 : List (Nat × (List V → Option V)) := [(139, idxF)]
def cx0 : Ctx := ⟨fns, (T.ofList sums0).getR⟩
theorem S0 : ∀ p ∈ sums0, PureSpec Tryz.prog gl p.1 p.2 :=
  List.forall_mem_cons.2 ⟨PureSpec.index Tryz.func139 (by kernel_rfl) (by kernel_rfl) (by kernel_rfl) (by kernel_rfl), none_of⟩
theorem H0 : CtxOk Tryz.prog gl cx0 := ctx_of fnsOk S0

def sums1 : List (Nat × (List V → Option V)) := [(102, autoR cx0 1000 100 102), (72, autoR cx0 1000 100 72), (75, autoR cx0 1000 100 75), (32, autoR cx0 1000 100 32), (31, autoR cx0 1000 100 31), (59, autoR cx0 1000 100 59), (83, autoR cx0 1000 100 83), (116, autoR cx0 1000 100 116)] ++ sums0
def cx1 : Ctx := ⟨fns, (T.ofList sums1).getR⟩
theorem S1 : ∀ p ∈ sums1, PureSpec Tryz.prog gl p.1 p.2 :=
  List.forall_mem_cons.2 ⟨PureSpec.of_autoR mixed H0 1000 100 _,   List.forall_mem_cons.2 ⟨PureSpec.of_autoR mixed H0 1000 100 _,   List.forall_mem_cons.2 ⟨PureSpec.of_autoR mixed H0 1000 100 _,   List.forall_mem_cons.2 ⟨PureSpec.of_autoR mixed H0 1000 100 _,   List.forall_mem_cons.2 ⟨PureSpec.of_autoR mixed H0 1000 100 _,   List.forall_mem_cons.2 ⟨PureSpec.of_autoR mixed H0 1000 100 _,   List.forall_mem_cons.2 ⟨PureSpec.of_autoR mixed H0 1000 100 _,   List.forall_mem_cons.2 ⟨PureSpec.of_autoR mixed H0 1000 100 _, S0⟩⟩⟩⟩⟩⟩⟩⟩
theorem H1 : CtxOk Tryz.prog gl cx1 := ctx_of fnsOk S1

def sums2 : List (Nat × (List V → Option V)) := [(99, autoR cx1 1000 100 99)] ++ sums1
def cx2 : Ctx := ⟨fns, (T.ofList sums2).getR⟩
theorem S2 : ∀ p ∈ sums2, PureSpec Tryz.prog gl p.1 p.2 :=
  List.forall_mem_cons.2 ⟨PureSpec.of_autoR mixed H1 1000 100 _, S1⟩
theorem H2 : CtxOk Tryz.prog gl cx2 := ctx_of fnsOk S2

def fieldT : List (List V × V) := [([.int .u32 111, .int .i64 7, .int .i64 5], .int .u64 0), ([.int .u32 111, .int .i64 15, .int .i64 5], .int .u64 0), ([.int .u32 111, .int .i64 20, .int .i64 5], .int .u64 0), ([.int .u32 111, .int .i64 20, .int .i64 12], .int .u64 0), ([.int .u32 111, .int .i64 20, .int .i64 6], .int .u64 0), ([.int .u32 111, .int .i64 25, .int .i64 7], .int .u64 0), ([.int .u32 111, .int .i64 8, .int .i64 4], .int .u64 0), ([.int .u32 111, .int .i64 25, .int .i64 6], .int .u64 0), ([.int .u32 111, .int .i64 7, .int .i64 1], .int .u64 0), ([.int .u32 111, .int .i64 31, .int .i64 1], .int .u64 0), ([.int .u32 111, .int .i64 12, .int .i64 20], .int .u64 0), ([.int .u32 111, .int .i64 21, .int .i64 10], .int .u64 0), ([.int .u32 111, .int .i64 20, .int .i64 1], .int .u64 0), ([.int .u32 111, .int .i64 12, .int .i64 8], .int .u64 0), ([.int .u32 1048691, .int .i64 7, .int .i64 5], .int .u64 0), ([.int .u32 1048691, .int .i64 15, .int .i64 5], .int .u64 0), ([.int .u32 1048691, .int .i64 20, .int .i64 5], .int .u64 1), ([.int .u32 1048691, .int .i64 20, .int .i64 12], .int .u64 1), ([.int .u32 1048691, .int .i64 20, .int .i64 6], .int .u64 1), ([.int .u32 1048691, .int .i64 25, .int .i64 7], .int .u64 0), ([.int .u32 1048691, .int .i64 8, .int .i64 4], .int .u64 0), ([.int .u32 1048691, .int .i64 25, .int .i64 6], .int .u64 0), ([.int .u32 1048691, .int .i64 7, .int .i64 1], .int .u64 0), ([.int .u32 1048691, .int .i64 31, .int .i64 1], .int .u64 0), ([.int .u32 1048691, .int .i64 12, .int .i64 20], .int .u64 256), ([.int .u32 1048691, .int .i64 21, .int .i64 10], .int .u64 0), ([.int .u32 1048691, .int .i64 20, .int .i64 1], .int .u64 1), ([.int .u32 1048691, .int .i64 12, .int .i64 8], .int .u64 0)]
def signT : List (List V × V) := [([.int .u64 0, .int .i64 12], .int .i64 0), ([.int .u64 0, .int .i64 13], .int .i64 0), ([.int .u64 0, .int .i64 32], .int .i64 0), ([.int .u64 0, .int .i64 21], .int .i64 0), ([.int .u64 1, .int .i64 12], .int .i64 1), ([.int .u64 1048576, .int .i64 32], .int .i64 1048576), ([.int .u64 2048, .int .i64 21], .int .i64 2048)]
def bitT : List (List V × V) := [([.int .i64 0, .int .i64 0, .int .i64 12, .int .i64 20], .int .u64 0), ([.int .i64 0, .int .i64 0, .int .i64 5, .int .i64 7], .int .u64 0), ([.int .i64 0, .int .i64 5, .int .i64 7, .int .i64 25], .int .u64 0), ([.int .i64 0, .int .i64 1, .int .i64 4, .int .i64 8], .int .u64 0), ([.int .i64 0, .int .i64 5, .int .i64 6, .int .i64 25], .int .u64 0), ([.int .i64 0, .int .i64 11, .int .i64 1, .int .i64 7], .int .u64 0), ([.int .i64 0, .int .i64 12, .int .i64 1, .int .i64 31], .int .u64 0), ([.int .i64 0, .int .i64 12, .int .i64 20, .int .i64 12], .int .u64 0), ([.int .i64 0, .int .i64 1, .int .i64 10, .int .i64 21], .int .u64 0), ([.int .i64 0, .int .i64 11, .int .i64 1, .int .i64 20], .int .u64 0), ([.int .i64 0, .int .i64 12, .int .i64 8, .int .i64 12], .int .u64 0), ([.int .i64 0, .int .i64 20, .int .i64 1, .int .i64 31], .int .u64 0), ([.int .i64 1, .int .i64 0, .int .i64 12, .int .i64 20], .int .u64 1048576), ([.int .i64 1048576, .int .i64 12, .int .i64 20, .int .i64 12], .int .u64 1048576), ([.int .i64 2048, .int .i64 1, .int .i64 10, .int .i64 21], .int .u64 0), ([.int .i64 2048, .int .i64 11, .int .i64 1, .int .i64 20], .int .u64 1048576), ([.int .i64 2048, .int .i64 12, .int .i64 8, .int .i64 12], .int .u64 0), ([.int .i64 2048, .int .i64 20, .int .i64 1, .int .i64 31], .int .u64 0)]
theorem fieldRuns : tabRuns cx1 1000 100 112 fieldT = true := by kernel_rfl
theorem signRuns : tabRuns cx1 1000 100 113 signT = true := by kernel_rfl
theorem bitRuns : tabRuns cx1 1000 100 119 bitT = true := by kernel_rfl
def sums3 : List (Nat × (List V → Option V)) := [(112, tabF fieldT), (113, tabF signT), (119, tabF bitT)] ++ sums2
def cx3 : Ctx := ⟨fns, (T.ofList sums3).getR⟩
theorem S3 : ∀ p ∈ sums3, PureSpec Tryz.prog gl p.1 p.2 :=
  List.forall_mem_cons.2 ⟨tab_ok mixed H1 fieldRuns, List.forall_mem_cons.2 ⟨tab_ok mixed H1 signRuns, List.forall_mem_cons.2 ⟨tab_ok mixed H1 bitRuns, S2⟩⟩⟩
theorem H3 : CtxOk Tryz.prog gl cx3 := ctx_of fnsOk S3

def ins (op : Int) : V := .tuple [.agg [.int .i64 op, .int .i64 0, .int .i64 0, .int .i64 0, .int .i64 0], .int .i64 0]
def decodeF : List V → Option V
  | [.int .u32 n] => if n = 111 then some (ins 40) else if n = 1048691 then some (ins 42) else none
  | _ => none
theorem d44a : testRunR cx3 1000 100 44 [.int .u32 111] (fun u => V.eqF u (ins 40)) = true := by kernel_rfl
theorem d44b : testRunR cx3 1000 100 44 [.int .u32 1048691] (fun u => V.eqF u (ins 42)) = true := by kernel_rfl
theorem d49a : testRunR cx3 1000 100 49 [.int .u32 111] (fun u => V.eqF u (ins 40)) = true := by kernel_rfl
theorem d49b : testRunR cx3 1000 100 49 [.int .u32 1048691] (fun u => V.eqF u (ins 42)) = true := by kernel_rfl
theorem decode_tells {f : FuncId} (ha : testRunR cx3 1000 100 f [.int .u32 111] (fun u => V.eqF u (ins 40)) = true) (hb : testRunR cx3 1000 100 f [.int .u32 1048691] (fun u => V.eqF u (ins 42)) = true) : PureSpec Tryz.prog gl f decodeF := by
  refine PureSpec.of_tells H3 (drawn_ok mixed H3) fun args r _ h => ?_
  unfold decodeF at h
  split at h
  · split at h
    · rename_i e; subst e; cases h; exact Tells.of_testR (V.eqF_eq · _) ha
    · split at h
      · rename_i e; subst e; cases h; exact Tells.of_testR (V.eqF_eq · _) hb
      · cases h
  · cases h

def nameF : List V → Option V
  | [.str [c]] => if 97 ≤ c ∧ c ≤ 106 then some (.bool true) else none
  | _ => none
theorem n75_0 : testRunR cx1 1000 100 75 [.str [97]] isTrue = true := by kernel_rfl
theorem n75_1 : testRunR cx1 1000 100 75 [.str [98]] isTrue = true := by kernel_rfl
theorem n75_2 : testRunR cx1 1000 100 75 [.str [99]] isTrue = true := by kernel_rfl
theorem n75_3 : testRunR cx1 1000 100 75 [.str [100]] isTrue = true := by kernel_rfl
theorem n75_4 : testRunR cx1 1000 100 75 [.str [101]] isTrue = true := by kernel_rfl
theorem n75_5 : testRunR cx1 1000 100 75 [.str [102]] isTrue = true := by kernel_rfl
theorem n75_6 : testRunR cx1 1000 100 75 [.str [103]] isTrue = true := by kernel_rfl
theorem n75_7 : testRunR cx1 1000 100 75 [.str [104]] isTrue = true := by kernel_rfl
theorem n75_8 : testRunR cx1 1000 100 75 [.str [105]] isTrue = true := by kernel_rfl
theorem n75_9 : testRunR cx1 1000 100 75 [.str [106]] isTrue = true := by kernel_rfl
theorem n75 : ∀ c, 97 ≤ c → c ≤ 106 → testRunR cx1 1000 100 75 [.str [c]] isTrue = true := fun c h1 h2 => by
  rcases (by omega : c = 97 ∨ c = 98 ∨ c = 99 ∨ c = 100 ∨ c = 101 ∨ c = 102 ∨ c = 103 ∨ c = 104 ∨ c = 105 ∨ c = 106) with rfl | rfl | rfl | rfl | rfl | rfl | rfl | rfl | rfl | rfl
  · exact n75_0
  · exact n75_1
  · exact n75_2
  · exact n75_3
  · exact n75_4
  · exact n75_5
  · exact n75_6
  · exact n75_7
  · exact n75_8
  · exact n75_9
theorem n83_0 : testRunR cx1 1000 100 83 [.str [97]] isTrue = true := by kernel_rfl
theorem n83_1 : testRunR cx1 1000 100 83 [.str [98]] isTrue = true := by kernel_rfl
theorem n83_2 : testRunR cx1 1000 100 83 [.str [99]] isTrue = true := by kernel_rfl
theorem n83_3 : testRunR cx1 1000 100 83 [.str [100]] isTrue = true := by kernel_rfl
theorem n83_4 : testRunR cx1 1000 100 83 [.str [101]] isTrue = true := by kernel_rfl
theorem n83_5 : testRunR cx1 1000 100 83 [.str [102]] isTrue = true := by kernel_rfl
theorem n83_6 : testRunR cx1 1000 100 83 [.str [103]] isTrue = true := by kernel_rfl
theorem n83_7 : testRunR cx1 1000 100 83 [.str [104]] isTrue = true := by kernel_rfl
theorem n83_8 : testRunR cx1 1000 100 83 [.str [105]] isTrue = true := by kernel_rfl
theorem n83_9 : testRunR cx1 1000 100 83 [.str [106]] isTrue = true := by kernel_rfl
theorem n83 : ∀ c, 97 ≤ c → c ≤ 106 → testRunR cx1 1000 100 83 [.str [c]] isTrue = true := fun c h1 h2 => by
  rcases (by omega : c = 97 ∨ c = 98 ∨ c = 99 ∨ c = 100 ∨ c = 101 ∨ c = 102 ∨ c = 103 ∨ c = 104 ∨ c = 105 ∨ c = 106) with rfl | rfl | rfl | rfl | rfl | rfl | rfl | rfl | rfl | rfl
  · exact n83_0
  · exact n83_1
  · exact n83_2
  · exact n83_3
  · exact n83_4
  · exact n83_5
  · exact n83_6
  · exact n83_7
  · exact n83_8
  · exact n83_9
theorem name_tells {f : FuncId} (ht : ∀ c, 97 ≤ c → c ≤ 106 → testRunR cx1 1000 100 f [.str [c]] isTrue = true) : PureSpec Tryz.prog gl f nameF := by
  refine PureSpec.of_tells H1 (drawn_ok mixed H1) fun args r _ h => ?_
  unfold nameF at h
  split at h
  · rename_i _ c _
    split at h
    · rename_i e
      cases h
      exact Tells.of_testR isTrue_eq (ht c e.1 e.2)
    · cases h
  · cases h

def sums5 : List (Nat × (List V → Option V)) := [(44, decodeF), (49, decodeF), (75, nameF), (83, nameF)] ++ sums0
def cx5 : Ctx := ⟨fns, (T.ofList sums5).getR⟩
theorem S5 : ∀ p ∈ sums5, PureSpec Tryz.prog gl p.1 p.2 :=
  List.forall_mem_cons.2 ⟨decode_tells d44a d44b,   List.forall_mem_cons.2 ⟨decode_tells d49a d49b,   List.forall_mem_cons.2 ⟨name_tells n75,   List.forall_mem_cons.2 ⟨name_tells n83, S0⟩⟩⟩⟩
theorem H5 : CtxOk Tryz.prog gl cx5 := ctx_of fnsOk S5
def sums6 : List (Nat × (List V → Option V)) := [(32, autoR cx0 1000 100 32), (31, autoR cx0 1000 100 31), (59, autoR cx0 1000 100 59), (76, autoR cx5 1000 100 76), (84, autoR cx5 1000 100 84)] ++ sums5
def cx6 : Ctx := ⟨fns, (T.ofList sums6).getR⟩
theorem S6 : ∀ p ∈ sums6, PureSpec Tryz.prog gl p.1 p.2 :=
  List.forall_mem_cons.2 ⟨PureSpec.of_autoR mixed H0 1000 100 _,   List.forall_mem_cons.2 ⟨PureSpec.of_autoR mixed H0 1000 100 _,   List.forall_mem_cons.2 ⟨PureSpec.of_autoR mixed H0 1000 100 _,   List.forall_mem_cons.2 ⟨PureSpec.of_autoR mixed H5 1000 100 _,   List.forall_mem_cons.2 ⟨PureSpec.of_autoR mixed H5 1000 100 _, S5⟩⟩⟩⟩⟩
theorem H6 : CtxOk Tryz.prog gl cx6 := ctx_of fnsOk S6
def sums7 : List (Nat × (List V → Option V)) := [(11, autoR cx6 1000 100 11)] ++ sums6
def cx7 : Ctx := ⟨fns, (T.ofList sums7).getR⟩
theorem S7 : ∀ p ∈ sums7, PureSpec Tryz.prog gl p.1 p.2 :=
  List.forall_mem_cons.2 ⟨PureSpec.of_autoR mixed H6 1000 100 _, S6⟩
theorem H7 : CtxOk Tryz.prog gl cx7 := ctx_of fnsOk S7
def awakeF : List V → Option V
  | [] => some (.bool true)
  | _ => none
theorem awakeRuns : testRunR cx7 1000 100 8 [] isTrue = true := by kernel_rfl
theorem awake_tells : PureSpec Tryz.prog gl 8 awakeF := by
  refine PureSpec.of_tells H7 (drawn_ok mixed H7) fun args r _ h => ?_
  unfold awakeF at h
  split at h
  · cases h; exact Tells.of_testR isTrue_eq awakeRuns
  · cases h
def sums8 : List (Nat × (List V → Option V)) := [(8, awakeF)] ++ sums7
def cx8 : Ctx := ⟨fns, (T.ofList sums8).getR⟩
theorem S8 : ∀ p ∈ sums8, PureSpec Tryz.prog gl p.1 p.2 :=
  List.forall_mem_cons.2 ⟨awake_tells, S7⟩
theorem H8 : CtxOk Tryz.prog gl cx8 := ctx_of fnsOk S8
end
end Go.Abs.SeatA
