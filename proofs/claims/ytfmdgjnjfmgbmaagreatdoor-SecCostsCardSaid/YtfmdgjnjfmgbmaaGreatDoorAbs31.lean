/-
  ABS, part 31: a run in pieces: a piece's answer is the state behind it; operations whose value is known beforehand.
-/
import Derived.Test.YtfmdgjnjfmgbmaaGreatDoorAbs30
namespace Go.Abs
open Go Go.RowKit
set_option linter.unusedSectionVars false
variable [Syms]

/-- A piece's answer: the state behind it. -/
structure OptS where
  v : Option (Ex × FSt)

instance : Ans OptS := ⟨⟨none⟩, fun l => match l with
  | [x] => x
  | _ => ⟨none⟩⟩

theorem holdsS (v : Ex × FSt) : Holds (fun a : OptS => a = ⟨some v⟩) where
  ff h := by cases h
  all l h x hx := by
    match l, h, hx with
    | [y], h, hx => rcases List.mem_singleton.1 hx with rfl; exact h
    | [], h, hx => cases hx
    | _ :: _ :: _, h, _ => cases h

section
variable (cx : Ctx) (m n : Nat)

/-- A piece. -/
def piece (c : C) (st : FSt) : OptS := evC (Ω := OptS) cx (callF cx m n) noYld m c st fun x s => ⟨some (x, s)⟩

def OptS.andThen (o : OptS) (f : FSt → OptS) : OptS := match o.v with
  | some (.normal, s) => f s
  | _ => ⟨none⟩

def OptS.test (o : OptS) (f : FSt → Bool) : Bool := match o.v with
  | some (.normal, s) => f s
  | _ => false

/-- The rest, looked at by a test. -/
def rest (c : C) (tb : Ex → FSt → Bool) (st : FSt) : Bool := evC (Ω := Bool) cx (callF cx m n) noYld m c st tb

variable {cx m n}

theorem piece_ok {c : C} {st s : FSt} (h : piece cx m n c st = ⟨some (.normal, s)⟩) {K : Ex → FSt → Prop} (hK : K .normal s) : evC (Ω := Prop) cx (callF cx m n) noYld m c st K := by
  refine evC_bp (holdsS (.normal, s)) (fun yb yp hy => callF_bp (holdsS (.normal, s)) m n yb yp hy) (noYld_bp (holdsS (.normal, s))) m c st _ K (fun x st' hx => ?_) h
  cases hx
  exact hK

theorem rest_ok {c : C} {tb : Ex → FSt → Bool} {st : FSt} (h : rest cx m n c tb st = true) : evC (Ω := Prop) cx (callF cx m n) noYld m c st fun x s => tb x s = true :=
  evC_bp holdsBool (fun yb yp hy => callF_bp holdsBool m n yb yp hy) (noYld_bp holdsBool) m c st _ _ (fun _ _ hx => hx) h

theorem test_some {o : OptS} {f : FSt → Bool} (h : o.test f = true) : ∃ s, o = ⟨some (.normal, s)⟩ ∧ f s = true := by
  obtain ⟨v⟩ := o
  unfold OptS.test at h
  split at h
  · rename_i s hs
    simp only at hs
    subst hs
    exact ⟨s, rfl, h⟩
  · cases h

theorem seq_piece {a b : C} {st s : FSt} {K : Ex → FSt → Prop} (h : piece cx m n a st = ⟨some (.normal, s)⟩) (hb : evC (Ω := Prop) cx (callF cx m n) noYld m b s K) : evC (Ω := Prop) cx (callF cx m n) noYld m (.seq a b) st K := by
  simp only [evC]
  exact piece_ok h hb

/-- One operation known beforehand. -/
theorem one_known {p p' r : C} {st : FSt} {tb : Ex → FSt → Bool} (h1 : piece cx m n p st = piece cx m n p' st) (h2 : (piece cx m n p' st).test (rest cx m n r tb) = true) :
    evC (Ω := Prop) cx (callF cx m n) noYld m (.seq p r) st fun x s => tb x s = true := by
  obtain ⟨s, hs, hr⟩ := test_some h2
  exact seq_piece (h1.trans hs) (rest_ok hr)

/-- Two of them. -/
theorem two_known {p p' q q' r : C} {st : FSt} {tb : Ex → FSt → Bool} (h1 : piece cx m n p st = piece cx m n p' st) (h2 : (piece cx m n p' st).andThen (piece cx m n q) = (piece cx m n p' st).andThen (piece cx m n q'))
    (h3 : (piece cx m n p' st).test (fun s => (piece cx m n q' s).test (rest cx m n r tb)) = true) :
    evC (Ω := Prop) cx (callF cx m n) noYld m (.seq p (.seq q r)) st fun x s => tb x s = true := by
  obtain ⟨s, hs, hr⟩ := test_some h3
  obtain ⟨s2, hs2, hr2⟩ := test_some hr
  rw [hs] at h2
  have h2' : piece cx m n q s = piece cx m n q' s := h2
  exact seq_piece (h1.trans hs) (seq_piece (h2'.trans hs2) (rest_ok hr2))
end

/-! Code's text, cut. -/
def spine : List C → C → C
  | [], c => c
  | x :: l, c => .seq x (spine l c)

def C.cut : Nat → C → List C × C
  | n + 1, .seq a b => (a :: (C.cut n b).1, (C.cut n b).2)
  | _, c => ([], c)

theorem spine_cut : ∀ (n : Nat) (c : C), spine (C.cut n c).1 (C.cut n c).2 = c
  | 0, c => rfl
  | n + 1, .seq a b => by simp only [C.cut, spine, spine_cut n b]
  | n + 1, .skip => rfl
  | n + 1, .ops _ => rfl
  | n + 1, .drawn .. => rfl
  | n + 1, .cond .. => rfl
  | n + 1, .block .. => rfl
  | n + 1, .loop _ => rfl
  | n + 1, .exit _ => rfl
  | n + 1, .ret => rfl
  | n + 1, .label _ => rfl
  | n + 1, .goto _ => rfl
  | n + 1, .scope .. => rfl
  | n + 1, .rangeF .. => rfl

/-- The first pieces of a text as one piece. -/
def C.front (n : Nat) (c : C) : C := spine (C.cut n c).1 .skip
def C.back (n : Nat) (c : C) : C := (C.cut n c).2

/-- Where a slot's value is known beforehand. -/
def C.known (d : Nat) (v : V) : C → C
  | .ops l => .ops (l.map fun o => if o.dst == some d then ⟨o.dst, .mov (.const v), o.guard⟩ else o)
  | .seq a b => .seq (a.known d v) (b.known d v)
  | c => c

section
variable {Ω : Type} [Ans Ω] {cx : Ctx} {call : Yld Ω → FuncId → List V → Heap → Nat → (End → Heap → Nat → Ω) → Ω} {yld : Yld Ω} {m : Nat}

theorem evC_spine : ∀ (l : List C) (c : C) (st : FSt) (K : Ex → FSt → Ω), evC cx call yld m (spine l c) st K = evC cx call yld m (.seq (spine l .skip) c) st K
  | [], c, st, K => by simp only [spine, evC]
  | x :: l, c, st, K => by
    simp only [spine, evC]
    congr 1
    funext x st
    cases x <;> simp only
    rw [evC_spine l c]
    simp only [evC]

theorem evC_cut (n : Nat) (c : C) (st : FSt) (K : Ex → FSt → Ω) : evC cx call yld m c st K = evC cx call yld m (.seq (c.front n) (c.back n)) st K := by
  conv => lhs; rw [← spine_cut n c]
  exact evC_spine _ _ _ _
end

/-- A function that answers yes, told at its way out. -/
def yes (rs : List RV) (x : Ex) (st : FSt) : Bool := match x with
  | .normal | .ret => match st.dfr with
    | [] => match results rs st.env st.h with
      | some v => match reify st.h.get deep v with
        | some v => isTrue v
        | none => false
      | none => false
    | _ => false
  | _ => false

theorem Tells.of_body {cx : Ctx} {m n : Nat} {f : FuncId} {fn : AFn} {args : List V} (hs : cx.sum f = none) (hcl : cx.clone f = false) (hf : cx.fn f = some fn)
    (h : evC (Ω := Prop) cx (callF cx m n) noYld m fn.body { env := initEnv 0 args .leaf, h := .leaf, nid := 0, dfr := [] } fun x s => yes fn.results x s = true) : Tells cx f args (.bool true) := by
  refine ⟨m, n + 1, ?_⟩
  simp only [callF, hs, hf, hcl, Bool.false_eq_true, if_false]
  refine evC_bp (Ω := Prop) (H := id) ⟨fun h => h, fun l h x hx => h x hx⟩ (fun yb yp hy => callF_bp (Ω := Prop) (H := id) ⟨fun h => h, fun l h x hx => h x hx⟩ m n yb yp hy) (fun _ _ _ _ _ _ _ h => h.elim) m fn.body _ _ _ (fun x s hx => ?_) h
  have hx' : yes fn.results x s = true := hx
  unfold yes at hx'
  have hret : (match s.dfr with
    | [] => match results fn.results s.env s.h with
      | some v => match reify s.h.get deep v with
        | some v => isTrue v
        | none => false
      | none => false
    | _ => false) = true → leave cx (fun c st K => evC cx (callF cx m n) noYld m c st K) s.dfr none s.h s.nid (ends fn s.env fun e h _ => match e with
        | .returned r => reify h.get deep r = some (.bool true)
        | _ => (Ans.ff : Prop)) := fun hx => by
    cases hd : s.dfr with
    | cons _ _ => rw [hd] at hx; cases hx
    | nil =>
      rw [hd] at hx
      simp only at hx
      cases hv : results fn.results s.env s.h with
      | none => rw [hv] at hx; cases hx
      | some v =>
        rw [hv] at hx
        simp only at hx
        cases hu : reify s.h.get deep v with
        | none => rw [hu] at hx; cases hx
        | some u =>
          rw [hu] at hx
          simp only [leave, ends, hv]
          rw [hu, isTrue_eq u hx]
  cases x with
  | normal => exact hret hx'
  | ret => exact hret hx'
  | panic _ => cases hx'
  | exit _ => cases hx'
  | goto _ => cases hx'
end Go.Abs
