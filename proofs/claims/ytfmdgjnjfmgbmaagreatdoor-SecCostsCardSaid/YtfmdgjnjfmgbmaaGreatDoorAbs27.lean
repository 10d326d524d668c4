/-
  ABS, part 27: what an operation looks at.
-/
import Derived.Test.YtfmdgjnjfmgbmaaGreatDoorAbs26
namespace Go.Abs
open Go Go.RowKit
set_option linter.unusedSectionVars false
variable [Syms]

section
variable {g g' : View} {id id' : Nat} {e e' : Env}

theorem val_congr {x : X} (h : ∀ t ∈ x.tmps, e.at t = e'.at t) : x.val e = x.val e' := by
  cases x with
  | tmp t => exact h t (by simp [X.tmps])
  | const v => rfl

theorem vals_congr : ∀ {xs : List X}, (∀ t ∈ xsTmps xs, e.at t = e'.at t) → xs.map (X.val e) = xs.map (X.val e')
  | [], _ => rfl
  | x :: xs, h => by
    simp only [xsTmps, List.flatMap_cons, List.mem_append] at h
    simp only [List.map_cons, val_congr (x := x) fun t ht => h t (.inl ht), vals_congr (xs := xs) fun t ht => h t (.inr ht)]

theorem parts_congr : ∀ {ps : List (Nat × Nat × X)}, (∀ t ∈ xsTmps (ps.map (·.2.2)), e.at t = e'.at t) → (ps.map fun p => (p.1, p.2.1, p.2.2.val e)) = ps.map fun p => (p.1, p.2.1, p.2.2.val e')
  | [], _ => rfl
  | p :: ps, h => by
    simp only [xsTmps, List.map_cons, List.flatMap_cons, List.mem_append] at h
    simp only [List.map_cons, val_congr (x := p.2.2) fun t ht => h t (.inl ht), parts_congr (ps := ps) fun t ht => h t (.inr ht)]

theorem bound_congr {x : Option X} {d most : Nat} (h : ∀ t ∈ xoTmps x, e.at t = e'.at t) : bound e x d most = bound e' x d most := by
  cases x with
  | none => rfl
  | some x => simp only [bound, val_congr (x := x) fun t ht => h t ht]

theorem evSlice_congr {esz : Nat} {x : V} {lo hi mx : Option X} (h1 : ∀ t ∈ xoTmps lo, e.at t = e'.at t) (h2 : ∀ t ∈ xoTmps hi, e.at t = e'.at t) (h3 : ∀ t ∈ xoTmps mx, e.at t = e'.at t) : evSlice g e esz x lo hi mx = evSlice g e' esz x lo hi mx := by
  have a : ∀ d m, bound e lo d m = bound e' lo d m := fun d m => bound_congr h1
  have b : ∀ d m, bound e hi d m = bound e' hi d m := fun d m => bound_congr h2
  have c : ∀ d m, bound e mx d m = bound e' mx d m := fun d m => bound_congr h3
  unfold evSlice
  simp only [a, b, c]

theorem hint_congr {x : Option X} (h : ∀ t ∈ xoTmps x, e.at t = e'.at t) : x.map (X.val e) = x.map (X.val e') := by
  cases x with
  | none => rfl
  | some x => simp only [Option.map_some, val_congr (x := x) fun t ht => h t ht]

/-- What it comes to hangs on the slots that it looks at. -/
theorem evI_env : ∀ {i : I}, (∀ t ∈ i.tmps, e.at t = e'.at t) → evI g id e i = evI g id e' i
  | .mov x, h => by simp only [evI, val_congr (x := x) (e := e) (e' := e') (fun t ht => h t (by simp [I.tmps, ht]))]
  | .pick c a b, h => by simp only [evI, val_congr (x := c) (e := e) (e' := e') (fun t ht => h t (by simp [I.tmps, ht])), val_congr (x := a) (e := e) (e' := e') (fun t ht => h t (by simp [I.tmps, ht])), val_congr (x := b) (e := e) (e' := e') (fun t ht => h t (by simp [I.tmps, ht]))]
  | .new cs, h => by simp only [evI]
  | .box x, h => by simp only [evI, val_congr (x := x) (e := e) (e' := e') (fun t ht => h t (by simp [I.tmps, ht]))]
  | .build zero parts, h => by simp only [evI, parts_congr (ps := parts) (e := e) (e' := e') (fun t ht => h t (by simp [I.tmps, ht]))]
  | .buildSlice cells esz len parts, h => by simp only [evI, parts_congr (ps := parts) (e := e) (e' := e') (fun t ht => h t (by simp [I.tmps, ht]))]
  | .load agg n a, h => by simp only [evI, val_congr (x := a) (e := e) (e' := e') (fun t ht => h t (by simp [I.tmps, ht]))]
  | .store n a x, h => by simp only [evI, val_congr (x := a) (e := e) (e' := e') (fun t ht => h t (by simp [I.tmps, ht])), val_congr (x := x) (e := e) (e' := e') (fun t ht => h t (by simp [I.tmps, ht]))]
  | .nilCheck x, h => by simp only [evI, val_congr (x := x) (e := e) (e' := e') (fun t ht => h t (by simp [I.tmps, ht]))]
  | .bin op x y, h => by simp only [evI, val_congr (x := x) (e := e) (e' := e') (fun t ht => h t (by simp [I.tmps, ht])), val_congr (x := y) (e := e) (e' := e') (fun t ht => h t (by simp [I.tmps, ht]))]
  | .eq k neg x y, h => by simp only [evI, val_congr (x := x) (e := e) (e' := e') (fun t ht => h t (by simp [I.tmps, ht])), val_congr (x := y) (e := e) (e' := e') (fun t ht => h t (by simp [I.tmps, ht]))]
  | .un op x, h => by simp only [evI, val_congr (x := x) (e := e) (e' := e') (fun t ht => h t (by simp [I.tmps, ht]))]
  | .convI k x, h => by simp only [evI, val_congr (x := x) (e := e) (e' := e') (fun t ht => h t (by simp [I.tmps, ht]))]
  | .convId x, h => by simp only [evI, val_congr (x := x) (e := e) (e' := e') (fun t ht => h t (by simp [I.tmps, ht]))]
  | .bytesOf x, h => by simp only [evI, val_congr (x := x) (e := e) (e' := e') (fun t ht => h t (by simp [I.tmps, ht]))]
  | .strOf x, h => by simp only [evI, val_congr (x := x) (e := e) (e' := e') (fun t ht => h t (by simp [I.tmps, ht]))]
  | .iface t x, h => by simp only [evI, val_congr (x := x) (e := e) (e' := e') (fun t ht => h t (by simp [I.tmps, ht]))]
  | .func fn first captured, h => by simp only [evI, vals_congr (xs := first) (e := e) (e' := e') (fun t ht => h t (by simp [I.tmps, ht])), vals_congr (xs := captured) (e := e) (e' := e') (fun t ht => h t (by simp [I.tmps, ht]))]
  | .mkMap hint, h => by
    cases hint with
    | none => rfl
    | some x => simp only [evI, val_congr (x := x) (e := e) (e' := e') (fun t ht => h t (by simp [I.tmps, xoTmps, ht]))]
  | .mkSlice zero esz bytes len cap, h => by simp only [evI, val_congr (x := len) (e := e) (e' := e') (fun t ht => h t (by simp [I.tmps, ht])), val_congr (x := cap) (e := e) (e' := e') (fun t ht => h t (by simp [I.tmps, ht]))]
  | .sliceS x lo hi, h => by
    have a : ∀ d m, bound e lo d m = bound e' lo d m := fun d m => bound_congr (fun t ht => h t (by simp [I.tmps, ht]))
    have b : ∀ d m, bound e hi d m = bound e' hi d m := fun d m => bound_congr (fun t ht => h t (by simp [I.tmps, ht]))
    simp only [evI, a, b, val_congr (x := x) (e := e) (e' := e') (fun t ht => h t (by simp [I.tmps, ht]))]
  | .sliceL esz x lo hi mx, h => by
    simp only [evI, val_congr (x := x) (e := e) (e' := e') (fun t ht => h t (by simp [I.tmps, ht]))]
    rw [evSlice_congr (fun t ht => h t (by simp [I.tmps, ht])) (fun t ht => h t (by simp [I.tmps, ht])) (fun t ht => h t (by simp [I.tmps, ht]))]
  | .fieldAddr off x, h => by simp only [evI, val_congr (x := x) (e := e) (e' := e') (fun t ht => h t (by simp [I.tmps, ht]))]
  | .field agg n off x, h => by simp only [evI, val_congr (x := x) (e := e) (e' := e') (fun t ht => h t (by simp [I.tmps, ht]))]
  | .indexAddrS esz x i, h => by simp only [evI, val_congr (x := x) (e := e) (e' := e') (fun t ht => h t (by simp [I.tmps, ht])), val_congr (x := i) (e := e) (e' := e') (fun t ht => h t (by simp [I.tmps, ht]))]
  | .indexAddrA esz len x i, h => by simp only [evI, val_congr (x := x) (e := e) (e' := e') (fun t ht => h t (by simp [I.tmps, ht])), val_congr (x := i) (e := e) (e' := e') (fun t ht => h t (by simp [I.tmps, ht]))]
  | .indexA agg esz len x i, h => by simp only [evI, val_congr (x := x) (e := e) (e' := e') (fun t ht => h t (by simp [I.tmps, ht])), val_congr (x := i) (e := e) (e' := e') (fun t ht => h t (by simp [I.tmps, ht]))]
  | .indexStr x i, h => by simp only [evI, val_congr (x := x) (e := e) (e' := e') (fun t ht => h t (by simp [I.tmps, ht])), val_congr (x := i) (e := e) (e' := e') (fun t ht => h t (by simp [I.tmps, ht]))]
  | .lookup kt zero ok x k, h => by simp only [evI, val_congr (x := x) (e := e) (e' := e') (fun t ht => h t (by simp [I.tmps, ht])), val_congr (x := k) (e := e) (e' := e') (fun t ht => h t (by simp [I.tmps, ht]))]
  | .mapSet kt m k v, h => by simp only [evI, val_congr (x := m) (e := e) (e' := e') (fun t ht => h t (by simp [I.tmps, ht])), val_congr (x := k) (e := e) (e' := e') (fun t ht => h t (by simp [I.tmps, ht])), val_congr (x := v) (e := e) (e' := e') (fun t ht => h t (by simp [I.tmps, ht]))]
  | .rangeM x, h => by simp only [evI, val_congr (x := x) (e := e) (e' := e') (fun t ht => h t (by simp [I.tmps, ht]))]
  | .rangeS x, h => by simp only [evI, val_congr (x := x) (e := e) (e' := e') (fun t ht => h t (by simp [I.tmps, ht]))]
  | .nextS it, h => by simp only [evI, val_congr (x := it) (e := e) (e' := e') (fun t ht => h t (by simp [I.tmps, ht]))]
  | .nextM it, h => by simp only [evI]
  | .entry it, h => by simp only [evI, val_congr (x := it) (e := e) (e' := e') (fun t ht => h t (by simp [I.tmps, ht]))]
  | .assertC t zero ok x, h => by simp only [evI, val_congr (x := x) (e := e) (e' := e') (fun t ht => h t (by simp [I.tmps, ht]))]
  | .extract i x, h => by simp only [evI, val_congr (x := x) (e := e) (e' := e') (fun t ht => h t (by simp [I.tmps, ht]))]
  | .lenStr x, h => by simp only [evI, val_congr (x := x) (e := e) (e' := e') (fun t ht => h t (by simp [I.tmps, ht]))]
  | .lenSlice x, h => by simp only [evI, val_congr (x := x) (e := e) (e' := e') (fun t ht => h t (by simp [I.tmps, ht]))]
  | .lenMap x, h => by simp only [evI, val_congr (x := x) (e := e) (e' := e') (fun t ht => h t (by simp [I.tmps, ht]))]
  | .append esz bytes s x, h => by simp only [evI, val_congr (x := s) (e := e) (e' := e') (fun t ht => h t (by simp [I.tmps, ht])), val_congr (x := x) (e := e) (e' := e') (fun t ht => h t (by simp [I.tmps, ht]))]
  | .copy esz d s, h => by simp only [evI, val_congr (x := d) (e := e) (e' := e') (fun t ht => h t (by simp [I.tmps, ht])), val_congr (x := s) (e := e) (e' := e') (fun t ht => h t (by simp [I.tmps, ht]))]
  | .delete kt m k, h => by simp only [evI, val_congr (x := m) (e := e) (e' := e') (fun t ht => h t (by simp [I.tmps, ht])), val_congr (x := k) (e := e) (e' := e') (fun t ht => h t (by simp [I.tmps, ht]))]
  | .minmax max x y, h => by simp only [evI, val_congr (x := x) (e := e) (e' := e') (fun t ht => h t (by simp [I.tmps, ht])), val_congr (x := y) (e := e) (e' := e') (fun t ht => h t (by simp [I.tmps, ht]))]
  | .call f args, h => by simp only [evI]
  | .recover, h => by simp only [evI]
  | .defer f args, h => by simp only [evI]
  | .bad, h => by simp only [evI]
  | .runeS x, h => by simp only [evI, val_congr (x := x) (e := e) (e' := e') (fun t ht => h t (by simp [I.tmps, ht]))]
  | .panic x, h => by simp only [evI]

/-- Pure operations look at no object, and make and write none. -/
theorem evI_pure {i : I} (hc : i.cls = .pure) : evI g id e i = evI g' id' e i ∧ ∀ eff, evI g id e i = some eff → eff.upd = none ∧ eff.new = none := by
  cases i <;> simp only [I.cls] at hc <;> first | (cases hc; done) | skip
  all_goals (refine ⟨by simp only [evI], fun eff h => ?_⟩)
  all_goals simp only [evI] at h
  all_goals (repeat' split at h)
  all_goals first
    | (cases h; done)
    | (cases h; exact ⟨rfl, rfl⟩)
    | (simp only [Option.map_eq_some_iff] at h; obtain ⟨_, _, rfl⟩ := h; exact ⟨rfl, rfl⟩)
    | (simp only [Option.bind_eq_some_iff, Option.map_eq_some_iff] at h; obtain ⟨_, _, _, _, rfl⟩ := h; exact ⟨rfl, rfl⟩)
    | (simp only [Option.bind_eq_some_iff, Option.some.injEq] at h; obtain ⟨_, _, _, _, rfl⟩ := h; exact ⟨rfl, rfl⟩)

theorem evI_read {i : I} (hc : i.cls = .read) : evI g id e i = evI g id' e i ∧ ∀ eff, evI g id e i = some eff → eff.upd = none ∧ eff.new = none := by
  cases i <;> simp only [I.cls] at hc <;> first | (cases hc; done) | skip
  all_goals (refine ⟨by simp only [evI], fun eff h => ?_⟩)
  all_goals simp only [evI] at h
  all_goals (repeat' split at h)
  all_goals first
    | (cases h; done)
    | (cases h; exact ⟨rfl, rfl⟩)
    | (simp only [Option.map_eq_some_iff] at h; obtain ⟨_, _, rfl⟩ := h; exact ⟨rfl, rfl⟩)
    | (simp only [Option.bind_eq_some_iff, Option.map_eq_some_iff] at h; obtain ⟨_, _, _, _, rfl⟩ := h; exact ⟨rfl, rfl⟩)
    | (simp only [Option.bind_eq_some_iff, Option.some.injEq] at h; obtain ⟨_, _, _, _, rfl⟩ := h; exact ⟨rfl, rfl⟩)

theorem evI_make {i : I} (hc : i.cls = .make) : ∀ eff, evI g id e i = some eff → eff.upd = none := by
  cases i <;> simp only [I.cls] at hc <;> first | (cases hc; done) | skip
  all_goals (intro eff h)
  all_goals simp only [evI] at h
  all_goals (repeat' split at h)
  all_goals first
    | (cases h; done)
    | (cases h; exact rfl)
    | (simp only [Option.map_eq_some_iff] at h; obtain ⟨_, _, rfl⟩ := h; exact rfl)
    | (simp only [Option.bind_eq_some_iff, Option.map_eq_some_iff] at h; obtain ⟨_, _, _, _, rfl⟩ := h; exact rfl)
    | (simp only [Option.bind_eq_some_iff, Option.some.injEq] at h; obtain ⟨_, _, _, _, rfl⟩ := h; exact rfl)

end
end Go.Abs
