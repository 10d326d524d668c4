/-
  ABS, part 7: slots and operands; what it is for one operation to be followed.
-/
import Derived.Test.YtfmdgjnjfmgbmaaGreatDoorAbs6
namespace Go.Abs
open Go Go.RowKit
set_option linter.unusedSectionVars false
variable [Syms]

theorem undef_rel (M : Mem) (β : Places) : Rel M β V.undef undef := by
  simp only [V.undef, Rel]; exact ⟨#[], rfl, by simp only [RelL]⟩

structure EnvRel (M : Mem) (β : Places) (N : Nat) (e : Env) (a : Act) : Prop where
  size : a.tmps.size = N
  rel : ∀ t, Rel M β (e.at t) (a.tmps.getD t undef)

theorem EnvRel.mono {M M' : Mem} {β β' : Places} (hM : M.le M') (hβ : β.le β') {N : Nat} {e : Env} {a : Act} (E : EnvRel M β N e a) : EnvRel M' β' N e a :=
  ⟨E.size, fun t => (E.rel t).mono hM hβ⟩

theorem at_set (e : Env) (d t : Nat) (v : V) : Env.at (e.set d v) t = if t = d then v else e.at t := by
  unfold Env.at
  rw [T.get_set]
  by_cases h : t = d <;> simp [h]

theorem EnvRel.put {M : Mem} {β : Places} {N : Nat} {e : Env} {a : Act} (E : EnvRel M β N e a) {d : Option Nat} (hd : ∀ t, d = some t → t < N) {v : V} {c : Value} (h : Rel M β v c) :
    EnvRel M β N (putDst e d v) (a.put d c) := by
  cases d with
  | none => exact E
  | some d =>
    refine ⟨by simp [Act.put, E.size], fun t => ?_⟩
    simp only [putDst, Act.put, at_set]
    by_cases ht : t = d
    · subst ht
      have := hd t rfl
      rw [if_pos rfl]
      simp [Array.getD, E.size, this, h]
    · rw [if_neg ht]
      have := E.rel t
      simpa [Array.getD_eq_getD_getElem?, Array.getElem?_setIfInBounds, Ne.symm ht] using this

theorem EnvRel.defers {M : Mem} {β : Places} {N : Nat} {e : Env} {a : Act} (E : EnvRel M β N e a) (ds : List Deferred) : EnvRel M β N e { a with defers := ds } := ⟨E.size, E.rel⟩

mutual
theorem ofConst_rel (M : Mem) (β : Places) : ∀ (d : Nat) (c : Value) (v : V), ofConst d c = some v → Rel M β v c
  | 0, _, _, h => by simp [ofConst] at h
  | d + 1, c, v, h => by
    unfold ofConst at h
    split at h
    all_goals first
      | (cases h; simp only [Rel]; done)
      | skip
    · cases h; simp only [Rel]; exact ⟨_, rfl, rfl⟩
    · split at h
      case isFalse => cases h
      case isTrue hny =>
        simp only [Option.bind_eq_some_iff, Option.map_eq_some_iff] at h
        obtain ⟨a, ha, b, hb, rfl⟩ := h
        simp only [Rel]
        exact ⟨_, _, _, FnRel.self β hny, rfl, ofConsts_rel M β d _ _ ha, ofConsts_rel M β d _ _ hb⟩
    · simp only [Option.map_eq_some_iff] at h
      obtain ⟨a, ha, rfl⟩ := h
      simp only [Rel]
      exact ⟨_, rfl, ofConst_rel M β d _ _ ha⟩
    · simp only [Option.map_eq_some_iff] at h
      obtain ⟨a, ha, rfl⟩ := h
      simp only [Rel]
      exact ⟨_, rfl, ofConsts_rel M β d _ _ ha⟩
    · simp only [Option.map_eq_some_iff] at h
      obtain ⟨a, ha, rfl⟩ := h
      simp only [Rel]
      exact ⟨_, rfl, ofConsts_rel M β d _ _ ha⟩
    · cases h
theorem ofConsts_rel (M : Mem) (β : Places) : ∀ (d : Nat) (c : List Value) (v : List V), ofConsts d c = some v → RelL M β v c
  | 0, _, _, h => by simp [ofConsts] at h
  | _ + 1, [], v, h => by simp [ofConsts] at h; subst h; simp only [RelL]
  | d + 1, c :: cs, v, h => by
    simp only [ofConsts, Option.bind_eq_some_iff, Option.map_eq_some_iff] at h
    obtain ⟨a, ha, b, hb, rfl⟩ := h
    simp only [RelL]
    exact ⟨_, _, rfl, ofConst_rel M β d _ _ ha, ofConsts_rel M β d _ _ hb⟩
end

/-- The listed variables' rows are among what is never written. -/
def Globs (gl : Nat → Option (List V)) (M : Mem) : Prop := ∀ g row, gl g = some row → ∀ β, RelRow M β row g 0

theorem Globs.mono {gl : Nat → Option (List V)} {M M' : Mem} (hM : M.le M') (G : Globs gl M) : Globs gl M' := fun g row h β => (G g row h β).mono hM (.refl β)

section
variable {M : Mem} {β : Places} {N : Nat} {e : Env} {a : Act} {gl : Nat → Option (List V)}

theorem cX_rel (G : Globs gl M) (E : EnvRel M β N e a) {x : Operand} {x' : X} (h : cX gl x = some x') : Rel M β (x'.val e) (a.eval x) := by
  cases x with
  | tmp t => simp [cX] at h; subst h; exact E.rel t
  | const v => simp [cX] at h; obtain ⟨v', hv, rfl⟩ := h; exact ofConst_rel M β _ _ _ hv
  | global g =>
    simp [cX] at h
    obtain ⟨row, hr, rfl⟩ := h
    simp only [X.val, Rel, Act.eval]
    exact ⟨g, 0, G g row hr β, rfl⟩
  | func f =>
    simp [cX] at h; subst h
    simp only [X.val, Rel, Act.eval]
    exact ⟨_, #[], #[], rfl, rfl, by simp only [RelL], by simp only [RelL]⟩

theorem cXs_rel (G : Globs gl M) (E : EnvRel M β N e a) : ∀ {l : List Operand} {l' : List X}, cXs gl l = some l' → RelL M β (l'.map (X.val e)) (l.map a.eval)
  | [], l', h => by simp [cXs] at h; subst h; simp only [List.map_nil, RelL]
  | x :: xs, l', h => by
    simp only [cXs, List.mapM_cons, bind, pure, Option.bind_eq_some_iff] at h
    obtain ⟨y, hy, ys, hys, h⟩ := h
    cases h
    simp only [List.map_cons, RelL]
    exact ⟨_, _, rfl, cX_rel G E hy, cXs_rel G E hys⟩
end

/-- One operation is followed: the model's run ends in a world that is told by the effect. -/
def Follows (P : Program) (M : Mem) (β : Places) (w0 w : World) (s : Sem Next) (hp : Heap) (id : Nat) (eff : Eff) : Prop :=
  ∃ β' w' c, (s.run P w = .ok (.value c) w' ∨ (s.run P w = .ok .skip w' ∧ c = undef)) ∧ β.le β' ∧ (∀ x, x ≠ id → β' x = β x) ∧ Sim M β' (eff.heap id hp).get w0 w' ∧ Rel M β' eff.val c

section
variable {P : Program} {M : Mem} {β : Places} {w0 w : World} {hp : Heap} {id : Nat}

theorem Follows.same {s : Sem Next} {v : V} {c : Value} (S : Sim M β hp.get w0 w) (hr : s.run P w = .ok (.value c) w) (h : Rel M β v c) : Follows P M β w0 w s hp id { val := v } :=
  ⟨β, w, c, .inl hr, .refl β, fun _ _ => rfl, S, h⟩

theorem Follows.drew {s : Sem Next} {v : V} {c : Value} (S : Sim M β hp.get w0 w) (hr : s.run P w = .ok (.value c) w.drew) (h : Rel M β v c) : Follows P M β w0 w s hp id { val := v } :=
  ⟨β, w.drew, c, .inl hr, .refl β, fun _ _ => rfl, S.drew, h⟩

theorem heap_new (w : World) (o : Go.Obj) : (w.alloc o).heap[w.heap.size]? = some o := by
  show (w.heap.push o)[w.heap.size]? = some o
  simp

/-- A new row of cells that fills its block, but for what lies behind. -/
theorem cells_new (S : Sim M β hp.get w0 w) (hid : β id = none) {cs : List V} {l rest : List Value} (hl : RelL M β cs l) (h1 : ∀ v ∈ cs, v.one = true) (esz : Nat) (T : TypeId) :
    let i : Place := ⟨w.heap.size, 0, esz, cs.length, l.length + rest.length, none⟩
    Sim M (β.set id i) (upd hp.get id (some (.cells cs esz 0 false))) w0 (w.alloc (.cells (l ++ rest).toArray T)) := by
  intro i
  have hm : ∀ a c, M.c a = some c → a.block ≠ w.heap.size := fun a c e => by have := lt_of_cell? (S.mem a c e); omega
  refine (S.alloc _).add (b := id) (i := i) (o := .cells cs esz 0 false) hid S.base (by simp [i]) ⟨rfl, rfl, (l ++ rest).toArray, T, (0, 0), ?_⟩ (fun b' o' i' _ hi' _ => ?_)
  · refine ⟨heap_new _ _, by simp [i], fun k _ => by simp, by simp [i, hl.length], fun k v hk => ?_, Nat.zero_le _, fun he k c hk => by omega, fun a c e hb => absurd hb (hm a c e)⟩
    obtain ⟨c, hc, hr⟩ := hl.get hk
    refine ⟨h1 v (List.mem_of_getElem? hk), c, ?_, hr.mono (.refl M) (β.le_set i hid)⟩
    have hlt : k < l.length := by
      rcases Nat.lt_or_ge k l.length with h | h
      · exact h
      · rw [List.getElem?_eq_none h] at hc; cases hc
    simp [i, List.getElem?_append_left hlt, hc]
  · have := S.sane b' i' hi'; simp [i]; omega

end
end Go.Abs
