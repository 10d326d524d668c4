/-
  ABS, part 34: a function told by a table of its answers.
-/
import Derived.Test.YtfmdgjnjfmgbmaaGreatDoorAbs33
namespace Go.Abs
open Go
set_option linter.unusedSectionVars false
variable [Syms]

def tabF (l : List (List V × V)) (args : List V) : Option V := (l.find? fun p => V.eqFs p.1 args).map (·.2)

noncomputable def tabRuns (cx : Ctx) (m n : Nat) (f : FuncId) (l : List (List V × V)) : Bool := l.all fun p => testRunR cx m n f p.1 (fun u => V.eqF u p.2)

theorem tab_of {P : Program} {gl : Nat → Option (List V)} {cx : Ctx} (hm : P.follows .mixedOrders = true) (H : CtxOk P gl cx) {m n : Nat} {f : FuncId} {l : List (List V × V)} (h : ∀ p ∈ l, testRunR cx m n f p.1 (fun u => V.eqF u p.2) = true) : PureSpec P gl f (tabF l) := by
  refine PureSpec.of_tells H (drawn_ok hm H) fun args r _ hr => ?_
  unfold tabF at hr
  simp only [Option.map_eq_some_iff] at hr
  obtain ⟨p, hp, rfl⟩ := hr
  have h1 := List.find?_some hp
  have h2 := List.mem_of_find?_eq_some hp
  have e := V.eqFs_eq _ _ h1
  subst e
  exact Tells.of_testR (V.eqF_eq · _) (h p h2)

theorem tab_ok {P : Program} {gl : Nat → Option (List V)} {cx : Ctx} (hm : P.follows .mixedOrders = true) (H : CtxOk P gl cx) {m n : Nat} {f : FuncId} {l : List (List V × V)} (h : tabRuns cx m n f l = true) : PureSpec P gl f (tabF l) :=
  tab_of hm H fun p hp => List.all_eq_true.1 h p hp

theorem tabRuns_append {cx : Ctx} {m n : Nat} {f : FuncId} {l l' : List (List V × V)} (h : tabRuns cx m n f l = true) (h' : tabRuns cx m n f l' = true) : tabRuns cx m n f (l ++ l') = true := by
  unfold tabRuns at *
  rw [List.all_append, h, h']
  rfl

/-! Contexts by tables. -/
theorem ctx_of {P : Program} {g : Nat → Option (List V)} {l : List (Nat × AFn)} {s : List (Nat × (List V → Option V))} (h1 : ∀ f afn, (T.ofList l).getR f = some afn → ∃ fn, P.funcs[f]? = some fn ∧ cFunc P g fn = some afn ∧ (fn.name == "runtime.NumGoroutine") = false)
    (h2 : ∀ p ∈ s, PureSpec P g p.1 p.2) : CtxOk P g { fn := (T.ofList l).getR, sum := (T.ofList s).getR } := { fn := h1, sum := fun _ _ h => h2 _ (T.ofList_mem s h) }
theorem none_of {α : Type} {p : α → Prop} : ∀ x ∈ ([] : List α), p x := fun _ h => nomatch h

/-! A law's text in four pieces: two of them hold an operation whose value is known beforehand. -/
theorem andThen_some {o : OptS} {f : FSt → OptS} {y : Ex × FSt} (h : o.andThen f = ⟨some y⟩) : ∃ s, o = ⟨some (.normal, s)⟩ ∧ f s = ⟨some y⟩ := by
  obtain ⟨v⟩ := o
  unfold OptS.andThen at h
  split at h
  · rename_i s hs
    simp only at hs
    subst hs
    exact ⟨s, rfl, h⟩
  · cases h

theorem law_two {cx : Ctx} {m n : Nat} {c p' q' : C} (i j k : Nat) {st : FSt} {tb : Ex → FSt → Bool}
    (h1 : pieceR cx m n (c.front i) st = pieceR cx m n p' st)
    (h2 : ((pieceR cx m n p' st).andThen (pieceG cx m n ((c.back i).front j))).andThen (pieceR cx m n (((c.back i).back j).front k)) = ((pieceR cx m n p' st).andThen (pieceG cx m n ((c.back i).front j))).andThen (pieceR cx m n q'))
    (h3 : (((pieceR cx m n p' st).andThen (pieceG cx m n ((c.back i).front j))).andThen (pieceR cx m n q')).test (restR cx m n (((c.back i).back j).back k) tb) = true) :
    evC (Ω := Prop) cx (callF cx m n) noYld m c st fun x s => tb x s = true := by
  obtain ⟨s3, e3, hr⟩ := test_some h3
  rw [e3] at h2
  obtain ⟨s2, e2, e3'⟩ := andThen_some h2
  obtain ⟨s1, e1, e2'⟩ := andThen_some e2
  rw [pieceR_eq] at h1 e1 e3'
  rw [pieceR_eq] at h1
  rw [pieceG_eq] at e2'
  rw [restR_eq] at hr
  rw [evC_cut i]
  refine seq_piece (h1.trans e1) ?_
  rw [evC_cut j]
  refine seq_piece e2' ?_
  rw [evC_cut k]
  exact seq_piece e3' (rest_ok hr)

/-- Where a slot's value is known beforehand, in an open region too. -/
def C.knownD (d : Nat) (v : V) : C → C
  | .ops l => .ops (l.map fun o => if o.dst == some d then ⟨o.dst, .mov (.const v), o.guard⟩ else o)
  | .drawn l t => .drawn (l.map fun p => if p.1.dst == some d then (⟨p.1.dst, .mov (.const v), p.1.guard⟩, p.2) else p) (t.map fun o => if o.dst == some d then ⟨o.dst, .mov (.const v), o.guard⟩ else o)
  | .seq a b => .seq (a.knownD d v) (b.knownD d v)
  | c => c

def init2 (k l : IntKind) (a b : Int) : FSt := { env := initEnv 0 [.int k a, .int l b] .leaf, h := .leaf, nid := 0, dfr := [] }
end Go.Abs
