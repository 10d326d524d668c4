/-
  ABS, part 37: in an open region, an operation whose value is known beforehand.
-/
import Derived.Test.YtobablbcmdhlbaaGreatDoorAbs35
namespace Go.Abs
open Go

theorem actAll_known {cx : Ctx} {nid n : Nat} {d : Nat} {op : BinOp} {x y : X} {bef : List Nat} {v : V} {L2 : List (O × List Nat)} : ∀ (L1 : List (O × List Nat)) (i : Nat) (s : Env × Heap),
    (∀ s1, actAll cx nid n i L1 s = some s1 → Abs.binOp op (x.val s1.1) (y.val s1.1) = some v) →
    actAll cx nid n i (L1 ++ (⟨some d, .bin op x y, none⟩, bef) :: L2) s = actAll cx nid n i (L1 ++ (⟨some d, .mov (.const v), none⟩, bef) :: L2) s
  | [], i, s, h => by
    have h0 := h s rfl
    simp only [List.nil_append, actAll]
    congr 1
    have hc : ∀ e : Env, X.val e (.const v) = v := fun _ => rfl
    simp only [actOp, wanted, if_true, evI, h0, Option.map_some, hc]
  | (o, b) :: L1, i, s, h => by
    simp only [List.cons_append, actAll]
    cases e : actOp cx nid n i o b s with
    | none => rfl
    | some s' =>
      simp only [Option.bind_some]
      exact actAll_known L1 (i + 1) s' fun s1 h1 => h s1 (by simp only [actAll, e, Option.bind_some]; exact h1)

theorem piece_known {cx : Ctx} {m n : Nat} {d : Nat} {op : BinOp} {x y : X} {bef : List Nat} {v : V} {L1 L2 : List (O × List Nat)} {st : FSt}
    (h : ∀ s1, actAll cx st.nid (L1 ++ (⟨some d, .bin op x y, none⟩, bef) :: L2).length 0 L1 (st.env, st.h) = some s1 → Abs.binOp op (x.val s1.1) (y.val s1.1) = some v) :
    piece cx m n (.seq (.drawn (L1 ++ (⟨some d, .bin op x y, none⟩, bef) :: L2)) .skip) st = piece cx m n (.seq (.drawn (L1 ++ (⟨some d, .mov (.const v), none⟩, bef) :: L2)) .skip) st := by
  unfold piece
  simp only [evC]
  rw [actAll_known L1 0 (st.env, st.h) h]
  have e : (L1 ++ ((⟨some d, .bin op x y, none⟩ : O), bef) :: L2).length = (L1 ++ ((⟨some d, .mov (.const v), none⟩ : O), bef) :: L2).length := by simp
  rw [e]

/-- A law of two numbers, the second of which is come to in an open region. -/
theorem Tells.of_drawn2 {cx : Ctx} {m n : Nat} {f : FuncId} {fn : AFn} {k l : IntKind} {a b : Int} {p' : C} (i j : Nat) {d : Nat} {op : BinOp} {x y : X} {bef : List Nat} {v : V} {L1 L2 : List (O × List Nat)} (hs : cx.sum f = none) (hf : cx.fn f = some fn)
    (h1 : pieceR cx m n (fn.body.front i) (init2 k l a b) = pieceR cx m n p' (init2 k l a b))
    (hq : ((fn.body.back i).back j).front 1 = .seq (.drawn (L1 ++ (⟨some d, .bin op x y, none⟩, bef) :: L2)) .skip)
    (h2 : ∀ s, (pieceR cx m n p' (init2 k l a b)).andThen (pieceG cx m n ((fn.body.back i).front j)) = ⟨some (.normal, s)⟩ → ∀ s1, actAll cx s.nid (L1 ++ (⟨some d, .bin op x y, none⟩, bef) :: L2).length 0 L1 (s.env, s.h) = some s1 → Abs.binOp op (x.val s1.1) (y.val s1.1) = some v)
    (h3 : ((pieceR cx m n p' (init2 k l a b)).andThen (pieceG cx m n ((fn.body.back i).front j))).test (fun s => (pieceR cx m n (.seq (.drawn (L1 ++ (⟨some d, .mov (.const v), none⟩, bef) :: L2)) .skip) s).test (restR cx m n (((fn.body.back i).back j).back 1) (yes fn.results))) = true) :
    Tells cx f [.int k a, .int l b] (.bool true) := by
  refine Tells.of_body (m := m) (n := n) hs hf ?_
  obtain ⟨s2, e2, hr⟩ := test_some h3
  obtain ⟨s3, e3, hr3⟩ := test_some hr
  have hk := h2 s2 e2
  obtain ⟨s1, e1, e2'⟩ := andThen_some e2
  rw [pieceR_eq] at h1 e1 e3
  rw [pieceR_eq] at h1
  rw [pieceG_eq] at e2'
  rw [restR_eq] at hr3
  show evC (Ω := Prop) cx (callF cx m n) noYld m fn.body (init2 k l a b) fun x s => yes fn.results x s = true
  rw [evC_cut i]
  refine seq_piece (h1.trans e1) ?_
  rw [evC_cut j]
  refine seq_piece e2' ?_
  rw [evC_cut 1]
  refine seq_piece ?_ (rest_ok hr3)
  rw [hq]
  exact (piece_known hk).trans e3

/-- The same, the state behind the first pieces under a name. -/
theorem Tells.of_drawn3 {cx : Ctx} {m n : Nat} {f : FuncId} {fn : AFn} {k l : IntKind} {a b : Int} {p' : C} (i j : Nat) {d : Nat} {op : BinOp} {x : X} {bef : List Nat} {u w v : V} {L1 L2 : List (O × List Nat)} {lo : OptS} {N : Nat} (hs : cx.sum f = none) (hf : cx.fn f = some fn)
    (h1 : pieceR cx m n (fn.body.front i) (init2 k l a b) = pieceR cx m n p' (init2 k l a b))
    (hlo : (pieceR cx m n p' (init2 k l a b)).andThen (pieceG cx m n ((fn.body.back i).front j)) = lo)
    (hq : ((fn.body.back i).back j).front 1 = .seq (.drawn (L1 ++ (⟨some d, .bin op x (.const w), none⟩, bef) :: L2)) .skip)
    (hN : (L1 ++ ((⟨some d, .bin op x (.const w), none⟩ : O), bef) :: L2).length = N)
    (hx : (actAllR cx (OptS.st lo).nid N L1 0 ((OptS.st lo).env, (OptS.st lo).h)).map (fun r => X.valR x r.1) = some u) (hv : Abs.binOp op u w = some v)
    (h3 : lo.test (fun s => (pieceR cx m n (.seq (.drawn (L1 ++ (⟨some d, .mov (.const v), none⟩, bef) :: L2)) .skip) s).test (restR cx m n (((fn.body.back i).back j).back 1) (yes fn.results))) = true) :
    Tells cx f [.int k a, .int l b] (.bool true) := by
  refine Tells.of_drawn2 i j (y := .const w) hs hf h1 hq ?_ (by rw [hlo]; exact h3)
  intro s hss s1 e1
  rw [hlo] at hss
  rw [hss] at hx
  rw [hN] at e1
  rw [actAllR_eq] at hx
  have e1' : actAll cx (OptS.st ⟨some (.normal, s)⟩).nid N 0 L1 ((OptS.st ⟨some (.normal, s)⟩).env, (OptS.st ⟨some (.normal, s)⟩).h) = some s1 := e1
  rw [e1'] at hx
  simp only [Option.map_some, Option.some.injEq, valR_eq] at hx
  rw [hx]
  exact hv

theorem test_all {α : Type} {o : OptS} {l : List α} {g : α → FSt → Bool} (h : o.test (fun s => l.all fun t => g t s) = true) {t : α} (ht : t ∈ l) : o.test (fun s => g t s) = true := by
  obtain ⟨s, hs, hall⟩ := test_some h
  rw [hs]
  exact List.all_eq_true.1 hall t ht
end Go.Abs
