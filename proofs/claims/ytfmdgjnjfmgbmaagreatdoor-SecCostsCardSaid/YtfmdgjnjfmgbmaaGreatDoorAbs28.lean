/-
  ABS, part 28: operations that may change places.
-/
import Derived.Test.YtfmdgjnjfmgbmaaGreatDoorAbs27
namespace Go.Abs
open Go Go.RowKit
set_option linter.unusedSectionVars false
variable [Syms]

/-- What an operation of an open region comes to. -/
def effOf (cx : Ctx) (o : O) (e : Env) (g : View) (id : Nat) : Option Eff :=
  if wanted e o.guard then
    match o.i with
    | .call f args => match resolve (f.val e) (args.map (X.val e)) with
      | some (f, args) => match cx.sum f with
        | some F => (callSum g F args).map fun v => { val := v }
        | none => none
      | none => none
    | .panic _ | .defer _ _ | .recover | .nextM _ => none
    | op => evI g id e op
  else some { val := V.undef }

section
variable {cx : Ctx} {nid n : Nat}

theorem actOp_eff {i : Nat} {o : O} {bef : List Nat} {s : Env × Heap} : actOp cx nid n i o bef s = (effOf cx o s.1 (seen s.2 nid n bef) (nid + i)).map fun eff => (putDst s.1 o.dst eff.val, eff.heap (nid + i) s.2) := by
  obtain ⟨dst, op, guard⟩ := o
  unfold actOp effOf
  by_cases hw : wanted s.1 guard = true
  · simp only [hw, if_true]
    cases op <;> first | rfl | skip
    rename_i f args
    simp only
    cases resolve (f.val s.1) (args.map (X.val s.1)) with
    | none => rfl
    | some q =>
      obtain ⟨f', as⟩ := q
      simp only
      cases cx.sum f' with
      | none => rfl
      | some F => simp only [Option.map_map]; rfl
  · simp only [hw]; rfl

theorem wanted_congr {e e' : Env} {g : Option (Nat × Bool)} (h : ∀ t w, g = some (t, w) → e.at t = e'.at t) : wanted e g = wanted e' g := by
  cases g with
  | none => rfl
  | some p => obtain ⟨t, w⟩ := p; simp only [wanted, h t w rfl]

theorem effOf_env {o : O} {e e' : Env} {g : View} {id : Nat} (h : ∀ t ∈ o.looks, e.at t = e'.at t) : effOf cx o e g id = effOf cx o e' g id := by
  have h1 : ∀ t ∈ o.i.tmps, e.at t = e'.at t := fun t ht => h t (by simp [O.looks, ht])
  have h2 : wanted e o.guard = wanted e' o.guard := wanted_congr fun t w hw => h t (by simp [O.looks, hw])
  unfold effOf
  rw [h2]
  have h3 := evI_env (g := g) (id := id) h1
  generalize o.i = i at *
  split
  · cases i <;> first | exact h3 | rfl | skip
    rename_i f args
    have h4 : f.val e = f.val e' := val_congr fun t ht => h1 t (by simp [I.tmps, ht])
    have h5 : args.map (X.val e) = args.map (X.val e') := vals_congr fun t ht => h1 t (by simp [I.tmps, ht])
    simp only [h4, h5]
  · rfl

theorem effOf_pure {o : O} {e : Env} {g g' : View} {id id' : Nat} (hc : o.i.cls = .pure) : effOf cx o e g id = effOf cx o e g' id' ∧ ∀ eff, effOf cx o e g id = some eff → eff.upd = none ∧ eff.new = none := by
  have h3 := evI_pure (g := g) (g' := g') (id := id) (id' := id') (e := e) hc
  unfold effOf
  generalize o.i = i at *
  split
  · cases i <;> first | exact h3 | exact ⟨rfl, fun _ h => by cases h⟩ | (simp only [I.cls] at hc; cases hc)
  · exact ⟨rfl, fun eff h => by cases h; exact ⟨rfl, rfl⟩⟩

theorem effOf_read {o : O} {e : Env} {g : View} {id : Nat} (hc : o.i.cls = .read) : ∀ eff, effOf cx o e g id = some eff → eff.upd = none ∧ eff.new = none := by
  have h3 := evI_read (g := g) (id := id) (id' := id) (e := e) hc
  unfold effOf
  generalize o.i = i at *
  split
  · cases i <;> first | exact h3.2 | exact (fun _ h => by cases h) | (simp only [I.cls] at hc; cases hc; done) | skip
    intro eff h
    simp only at h
    split at h
    · split at h
      · simp only [Option.map_eq_some_iff] at h
        obtain ⟨_, _, rfl⟩ := h
        exact ⟨rfl, rfl⟩
      · cases h
    · cases h
  · exact fun eff h => by cases h; exact ⟨rfl, rfl⟩

theorem effOf_make {o : O} {e : Env} {g : View} {id : Nat} (hc : o.i.cls = .make) : ∀ eff, effOf cx o e g id = some eff → eff.upd = none := by
  have h3 := evI_make (g := g) (id := id) (e := e) hc
  unfold effOf
  generalize o.i = i at *
  split
  · cases i <;> first | exact h3 | exact (fun _ h => by cases h) | (simp only [I.cls] at hc; cases hc)
  · exact fun eff h => by cases h; rfl

theorem putDst_at {e : Env} {d : Option Nat} {v : V} {t : Nat} (h : d ≠ some t) : (putDst e d v).at t = e.at t := by
  cases d with
  | none => rfl
  | some d => simp only [putDst, at_set]; rw [if_neg (fun he => h (by rw [he]))]

theorem putDst_comm {e : Env} {d d' : Option Nat} {v v' : V} (h : ∀ a, d = some a → d' ≠ some a) : putDst (putDst e d v) d' v' = putDst (putDst e d' v') d v := by
  cases d with
  | none => rfl
  | some d =>
    cases d' with
    | none => rfl
    | some d' =>
      exact T.put_comm e _ _ (fun he => h d rfl (by rw [he]))

theorem seen_make {h : Heap} {j : Nat} {bef : List Nat} (hj : j < n) (hb : j ∉ bef) (o : AObj) : seen (h.set (nid + j) o) nid n bef = seen h nid n bef := by
  funext b
  unfold seen
  by_cases hbj : b = nid + j
  · subst hbj
    have h1 : (decide (nid ≤ nid + j) && Nat.blt (nid + j) (nid + n) && !bef.contains (nid + j - nid)) = true := by
      have : nid + j - nid = j := by omega
      rw [this]
      have h2 : bef.contains j = false := by simpa using hb
      rw [h2]
      simp [hj]
    rw [h1]; rfl
  · rw [get_set, upd_ne _ _ hbj]

theorem conflict_false {x y : O} (h : conflict x y = false) : (∀ a, x.dst = some a → a ∉ y.looks) ∧ (∀ a, y.dst = some a → a ∉ x.looks) ∧ (∀ a, x.dst = some a → y.dst ≠ some a) ∧
    (x.i.cls = .write → y.i.cls = .pure) ∧ (y.i.cls = .write → x.i.cls = .pure) := by
  simp only [conflict, Bool.or_eq_false_iff] at h
  obtain ⟨⟨⟨⟨h1, h2⟩, h3⟩, h4⟩, h5⟩ := h
  refine ⟨fun a ha => ?_, fun a ha => ?_, fun a ha hb => ?_, fun hw => ?_, fun hw => ?_⟩
  · rw [ha] at h1; simpa [hits] using h1
  · rw [ha] at h2; simpa [hits] using h2
  · rw [ha, hb] at h3; simp at h3
  · rw [hw] at h4
    cases hy : y.i.cls <;> rw [hy] at h4 <;> first | rfl | (exact absurd h4 (by decide))
  · rw [hw] at h5
    cases hx : x.i.cls <;> rw [hx] at h5 <;> first | rfl | (exact absurd h5 (by decide))

/-- What one of two sees is the same after the other. -/
theorem eff_after {x y : O} {i j : Nat} {bef : List Nat} {s : Env × Heap} {ex : Eff} (hj : j < n) (hbi : j ∉ bef) (hx : ∀ a, x.dst = some a → a ∉ y.looks) (hw : x.i.cls = .write → y.i.cls = .pure) {gx : View} (he : effOf cx x s.1 gx (nid + j) = some ex) :
    effOf cx y (putDst s.1 x.dst ex.val) (seen (ex.heap (nid + j) s.2) nid n bef) (nid + i) = effOf cx y s.1 (seen s.2 nid n bef) (nid + i) := by
  rw [effOf_env (e' := s.1) fun t ht => putDst_at fun hd => hx t hd ht]
  cases hxc : x.i.cls with
  | pure =>
    obtain ⟨h1, h2⟩ := (effOf_pure (g' := gx) (id' := nid + j) hxc).2 ex he
    simp only [Eff.heap, h1, h2]
  | read =>
    obtain ⟨h1, h2⟩ := effOf_read hxc ex he
    simp only [Eff.heap, h1, h2]
  | make =>
    have h1 := effOf_make hxc ex he
    simp only [Eff.heap, h1]
    cases ex.new with
    | none => rfl
    | some o => simp only; rw [seen_make hj hbi o]
  | write => exact (effOf_pure (hw hxc)).1

theorem heaps_comm {x y : O} {i j : Nat} (hij : j ≠ i) {ex ey : Eff} {e e' : Env} {gx gy : View} (h1 : x.i.cls = .write → y.i.cls = .pure) (h2 : y.i.cls = .write → x.i.cls = .pure)
    (hx : effOf cx x e gx (nid + j) = some ex) (hy : effOf cx y e' gy (nid + i) = some ey) (h : Heap) : ex.heap (nid + j) (ey.heap (nid + i) h) = ey.heap (nid + i) (ex.heap (nid + j) h) := by
  have idle : ∀ {o : O} {e : Env} {g : View} {id : Nat} {eff : Eff}, (o.i.cls = .pure ∨ o.i.cls = .read) → effOf cx o e g id = some eff → ∀ k h, eff.heap k h = h := fun {o e g id eff} hc he k h => by
    have h3 : eff.upd = none ∧ eff.new = none := by
      rcases hc with hc | hc
      · exact (effOf_pure (g' := g) (id' := id) hc).2 eff he
      · exact effOf_read hc eff he
    simp only [Eff.heap, h3.1, h3.2]
  cases hxc : x.i.cls with
  | pure => rw [idle (.inl hxc) hx, idle (.inl hxc) hx]
  | read => rw [idle (.inr hxc) hx, idle (.inr hxc) hx]
  | write => rw [idle (.inl (h1 hxc)) hy, idle (.inl (h1 hxc)) hy]
  | make =>
    cases hyc : y.i.cls with
    | pure => rw [idle (.inl hyc) hy, idle (.inl hyc) hy]
    | read => rw [idle (.inr hyc) hy, idle (.inr hyc) hy]
    | write => rw [h2 hyc] at hxc; cases hxc
    | make =>
      have k1 := effOf_make hxc ex hx
      have k2 := effOf_make hyc ey hy
      simp only [Eff.heap, k1, k2]
      cases ex.new <;> cases ey.new <;> first | rfl | skip
      exact T.put_comm h _ _ (by omega)

theorem act_swap {x y : O} {i j : Nat} {bi bj : List Nat} {s s1 s2 : Env × Heap} (hc : conflict x y = false) (hij : j ≠ i) (hj : j < n) (hi : i < n) (hbi : j ∉ bi) (hbj : i ∉ bj)
    (h1 : actOp cx nid n j x bj s = some s1) (h2 : actOp cx nid n i y bi s1 = some s2) : ∃ s1', actOp cx nid n i y bi s = some s1' ∧ actOp cx nid n j x bj s1' = some s2 := by
  obtain ⟨c1, c2, c3, c4, c5⟩ := conflict_false hc
  rw [actOp_eff] at h1 h2
  simp only [Option.map_eq_some_iff] at h1 h2
  obtain ⟨ex, hex, rfl⟩ := h1
  obtain ⟨ey, hey, rfl⟩ := h2
  simp only at hey
  rw [eff_after hj hbi c1 c4 hex] at hey
  refine ⟨(putDst s.1 y.dst ey.val, ey.heap (nid + i) s.2), by rw [actOp_eff, hey]; rfl, ?_⟩
  rw [actOp_eff]
  simp only
  rw [eff_after hi hbj c2 c5 hey, hex]
  simp only [Option.map_some, Option.some.injEq, Prod.mk.injEq]
  exact ⟨(putDst_comm c3).symm, heaps_comm hij c4 c5 hex hey s.2⟩

theorem actAll_idx {z : List (O × List Nat)} : ∀ {l : List (O × List Nat)} {k : Nat} {s : Env × Heap}, (∀ q : Nat, l[q]? = z[k + q]?) → actAll cx nid n k l s = actIdx cx nid n z (List.range' k l.length) s
  | [], k, s, h => rfl
  | (o, bef) :: l, k, s, h => by
    have h0 := h 0
    simp only [List.getElem?_cons_zero, Nat.add_zero] at h0
    simp only [actAll, List.length_cons, List.range'_succ, actIdx, ← h0]
    congr 1
    funext s'
    refine actAll_idx fun q => ?_
    have := h (q + 1)
    rw [List.getElem?_cons_succ] at this
    rw [this]
    congr 1
    omega

/-- One that may change places with all that stand ahead of it comes first. -/
theorem act_front {z : List (O × List Nat)} {i : Nat} {o : O} {bef : List Nat} (hz : z[i]? = some (o, bef)) (hi : i < n) : ∀ {l1 l2 : List Nat} {s fin : Env × Heap},
    (∀ j ∈ l1, ∃ p bj, z[j]? = some (p, bj) ∧ conflict p o = false ∧ j ≠ i ∧ j < n ∧ j ∉ bef ∧ i ∉ bj) → actIdx cx nid n z (l1 ++ i :: l2) s = some fin →
    ∃ s', actOp cx nid n i o bef s = some s' ∧ actIdx cx nid n z (l1 ++ l2) s' = some fin
  | [], l2, s, fin, _, h => by
    simp only [List.nil_append, actIdx, hz, Option.bind_eq_some_iff] at h
    exact h
  | j :: l1, l2, s, fin, H, h => by
    obtain ⟨p, bj, hj, hc, hne, hjn, hb1, hb2⟩ := H j List.mem_cons_self
    simp only [List.cons_append, actIdx, hj, Option.bind_eq_some_iff] at h
    obtain ⟨s1, hs1, h⟩ := h
    obtain ⟨s2, hs2, hrest⟩ := act_front hz hi (fun q hq => H q (List.mem_cons_of_mem _ hq)) h
    obtain ⟨s1', h1, h2⟩ := act_swap hc hne hjn hi hb1 hb2 hs1 hs2
    refine ⟨s1', h1, ?_⟩
    simp only [List.cons_append, actIdx, hj, h2, Option.bind_some]
    exact hrest
end
end Go.Abs
