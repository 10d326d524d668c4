/-
  ABS, part 6: rows of related values; reading and writing cells.
-/
import Derived.Test.YtfmdgjnjfmgbmaaGreatDoorAbs5
import Derived.Laws.Cells
import Derived.Laws.IdiomCopy
namespace Go.Abs
open Go Go.RowKit
set_option linter.unusedSectionVars false
variable [Syms]

section
variable {M : Mem} {β : Places}

theorem RelL.length : ∀ {l : List V} {cs : List Value}, RelL M β l cs → cs.length = l.length
  | [], _, h => by simp only [RelL] at h; subst h; rfl
  | v :: vs, _, h => by
    simp only [RelL] at h
    obtain ⟨c, cs, rfl, _, ht⟩ := h
    simp [RelL.length ht]

theorem RelL.get : ∀ {l : List V} {cs : List Value}, RelL M β l cs → ∀ {k : Nat} {v : V}, l[k]? = some v → ∃ c, cs[k]? = some c ∧ Rel M β v c
  | [], _, _, k, v, hk => by simp at hk
  | x :: xs, _, h, k, v, hk => by
    simp only [RelL] at h
    obtain ⟨c, cs, rfl, hr, ht⟩ := h
    cases k with
    | zero => simp at hk; subst hk; exact ⟨c, rfl, hr⟩
    | succ k => simpa using RelL.get ht (by simpa using hk)

theorem RelL.of_get : ∀ {l : List V} {cs : List Value}, cs.length = l.length → (∀ (k : Nat) (v : V), l[k]? = some v → ∃ c, cs[k]? = some c ∧ Rel M β v c) → RelL M β l cs
  | [], cs, hl, _ => by simp only [RelL]; exact List.length_eq_zero_iff.1 hl
  | v :: vs, [], hl, _ => by simp at hl
  | v :: vs, c :: cs, hl, h => by
    simp only [RelL]
    obtain ⟨c', hc, hr⟩ := h 0 v rfl
    simp at hc; subst hc
    exact ⟨c, cs, rfl, hr, RelL.of_get (by simpa using hl) fun k v hk => by simpa using h (k + 1) v (by simpa using hk)⟩

theorem RelL.nil_iff {cs : List Value} : RelL M β [] cs ↔ cs = [] := by simp only [RelL]

theorem RelL.append {l l' : List V} {cs cs' : List Value} (h : RelL M β l cs) (h' : RelL M β l' cs') : RelL M β (l ++ l') (cs ++ cs') :=
  RelL.of_get (by simp [h.length, h'.length]) fun k v hk => by
    by_cases hlt : k < l.length
    · rw [List.getElem?_append_left hlt] at hk
      obtain ⟨c, hc, hr⟩ := h.get hk
      exact ⟨c, by rw [List.getElem?_append_left (by rw [h.length]; exact hlt)]; exact hc, hr⟩
    · rw [List.getElem?_append_right (by omega)] at hk
      obtain ⟨c, hc, hr⟩ := h'.get hk
      exact ⟨c, by rw [List.getElem?_append_right (by rw [h.length]; omega), h.length]; exact hc, hr⟩

theorem RelL.take {l : List V} {cs : List Value} (h : RelL M β l cs) (n : Nat) : RelL M β (l.take n) (cs.take n) :=
  RelL.of_get (by simp [h.length]) fun k v hk => by
    rw [List.getElem?_take] at hk ⊢
    split at hk
    · rw [if_pos (by assumption)]; exact h.get hk
    · cases hk

theorem RelL.drop {l : List V} {cs : List Value} (h : RelL M β l cs) (n : Nat) : RelL M β (l.drop n) (cs.drop n) :=
  RelL.of_get (by simp [h.length]) fun k v hk => by
    rw [List.getElem?_drop] at hk ⊢; exact h.get hk

theorem RelL.of_flat {l : List V} {cs : List Value} (h : RelL M β l cs) {v : V} (hv : v ∈ l) : ∃ c, Rel M β v c := by
  obtain ⟨k, hk⟩ := List.mem_iff_getElem?.1 hv
  obtain ⟨c, _, hr⟩ := h.get hk
  exact ⟨c, hr⟩

theorem Rel.cells {v : V} {c : Value} (h : Rel M β v c) : RelL M β v.cells c.cells.toList := by
  cases v with
  | agg cs => simp only [Rel] at h; obtain ⟨a, rfl, ha⟩ := h; exact ha
  | slice b off len cap => simp only [V.cells, RelL]; refine ⟨c, [], ?_, h, rfl⟩; simp only [Rel] at h; obtain ⟨i, n, _, _, _, _, _, a, rfl, _⟩ := h; rfl
  | rslice row off len cap => simp only [V.cells, RelL]; refine ⟨c, [], ?_, h, rfl⟩; simp only [Rel] at h; obtain ⟨i, n, _, _, _, _, a, rfl, _⟩ := h; rfl
  | str l => simp only [V.cells, RelL]; refine ⟨c, [], ?_, h, rfl⟩; simp only [Rel] at h; obtain ⟨s, rfl, _⟩ := h; rfl
  | ptr b off => simp only [V.cells, RelL]; refine ⟨c, [], ?_, h, rfl⟩; simp only [Rel] at h; obtain ⟨i, _, rfl⟩ := h; rfl
  | rptr b off => simp only [V.cells, RelL]; refine ⟨c, [], ?_, h, rfl⟩; simp only [Rel] at h; obtain ⟨i, _, _, rfl⟩ := h; rfl
  | map b => simp only [V.cells, RelL]; refine ⟨c, [], ?_, h, rfl⟩; simp only [Rel] at h; obtain ⟨i, _, rfl⟩ := h; rfl
  | rmap ks vs => simp only [V.cells, RelL]; refine ⟨c, [], ?_, h, rfl⟩; simp only [Rel] at h; obtain ⟨r, es, _, rfl, _⟩ := h; rfl
  | func f x y => simp only [V.cells, RelL]; refine ⟨c, [], ?_, h, rfl⟩; simp only [Rel] at h; obtain ⟨f', a, b, _, rfl, _⟩ := h; rfl
  | iface t v => simp only [V.cells, RelL]; refine ⟨c, [], ?_, h, rfl⟩; simp only [Rel] at h; obtain ⟨d, rfl, _⟩ := h; rfl
  | sym x => simp only [V.cells, RelL]; refine ⟨c, [], ?_, h, rfl⟩; simp only [Rel] at h; obtain ⟨n, rfl, _⟩ := h; rfl
  | sstr l => simp only [V.cells, RelL]; refine ⟨c, [], ?_, h, rfl⟩; simp only [Rel] at h; obtain ⟨s, rfl, _⟩ := h; rfl
  | tuple vs => simp only [V.cells, RelL]; refine ⟨c, [], ?_, h, rfl⟩; simp only [Rel] at h; obtain ⟨a, rfl, _⟩ := h; rfl
  | _ => simp only [V.cells, RelL]; refine ⟨c, [], ?_, h, rfl⟩; simp only [Rel] at h; subst h; rfl

theorem Rel.one {v : V} {c : Value} (h : Rel M β v c) : c.oneCell' = v.one := by
  cases v <;> simp only [Rel] at h
  case slice => obtain ⟨i, n, _, _, _, _, _, a, rfl, _⟩ := h; rfl
  case rslice => obtain ⟨i, n, _, _, _, _, a, rfl, _⟩ := h; rfl
  case str => obtain ⟨s, rfl, _⟩ := h; rfl
  case ptr => obtain ⟨i, _, rfl⟩ := h; rfl
  case rptr => obtain ⟨i, _, _, rfl⟩ := h; rfl
  case map => obtain ⟨i, _, rfl⟩ := h; rfl
  case rmap => obtain ⟨r, es, _, rfl, _⟩ := h; rfl
  case func => obtain ⟨f', a, b, _, rfl, _⟩ := h; rfl
  case iface => obtain ⟨d, rfl, _⟩ := h; rfl
  case agg => obtain ⟨a, rfl, _⟩ := h; rfl
  case tuple => obtain ⟨a, rfl, _⟩ := h; rfl
  case sym => obtain ⟨n, rfl, _⟩ := h; rfl
  case sstr => obtain ⟨s, rfl, _⟩ := h; rfl
  all_goals (subst h; rfl)

/-- One cell or a row of them, as a variable of the type reads. -/
theorem ofCells_rel {g : Bool} {cs : List V} {v : V} (h : ofCells g cs = some v) {l : List Value} (hl : RelL M β cs l) :
    (g = true → Rel M β v (.agg l.toArray)) ∧ (g = false → ∃ c, l = [c] ∧ Rel M β v c) := by
  unfold ofCells at h
  cases g with
  | true =>
    simp at h; subst h
    exact ⟨fun _ => by simp only [Rel]; exact ⟨_, rfl, hl⟩, fun h => by cases h⟩
  | false =>
    refine ⟨(fun h => by cases h), fun _ => ?_⟩
    match cs, h with
    | [x], h =>
      simp at h; subst h
      simp only [RelL] at hl
      obtain ⟨c, cs, rfl, hr, rfl⟩ := hl
      exact ⟨c, rfl, hr⟩

theorem RelRow.get : ∀ {l : List V} {B O : Nat}, RelRow M β l B O → ∀ {k : Nat} {v : V}, l[k]? = some v → ∃ c, M.c ⟨B, O + k, none⟩ = some c ∧ v.imm = true ∧ v.one = true ∧ Rel M β v c
  | [], _, _, _, k, v, hk => by simp at hk
  | x :: xs, B, O, h, k, v, hk => by
    simp only [RelRow] at h
    obtain ⟨⟨c, h1, h2, h3, h4⟩, ht⟩ := h
    cases k with
    | zero => simp at hk; subst hk; exact ⟨c, h1, h2, h3, h4⟩
    | succ k =>
      obtain ⟨c, h⟩ := RelRow.get ht (k := k) (by simpa using hk)
      rw [show O + 1 + k = O + (k + 1) by omega] at h
      exact ⟨c, h⟩

theorem RelRow.of_get : ∀ {l : List V} {B O : Nat}, (∀ (k : Nat) (v : V), l[k]? = some v → ∃ c, M.c ⟨B, O + k, none⟩ = some c ∧ v.imm = true ∧ v.one = true ∧ Rel M β v c) → RelRow M β l B O
  | [], _, _, _ => by simp only [RelRow]
  | x :: xs, B, O, h => by
    simp only [RelRow]
    refine ⟨by simpa using h 0 x rfl, RelRow.of_get fun k v hk => ?_⟩
    have := h (k + 1) v (by simpa using hk)
    rwa [show O + (k + 1) = O + 1 + k by omega] at this

theorem cellsAt_some {row cs : List V} {off n : Nat} (h : cellsAt row off n = some cs) : off + n ≤ row.length ∧ cs.length = n ∧ ∀ k v, cs[k]? = some v → row[off + k]? = some v := by
  unfold cellsAt at h
  split at h
  · rename_i hle
    cases h
    refine ⟨hle, by simp; omega, fun k v hk => ?_⟩
    rw [List.getElem?_take] at hk
    split at hk
    · rwa [List.getElem?_drop] at hk
    · cases hk
  · cases h

theorem add_none (B O k : Nat) : (⟨B, O, none⟩ : Addr).add k = ⟨B, O + k, none⟩ := by
  unfold Addr.add
  split
  · subst_vars; rfl
  · rfl

theorem frozen?_of {w : World} {a : Addr} {arr : Array Value} {T : TypeId} {fr : Nat × Nat} (h : w.heap[a.block]? = some (.cells arr T fr)) : w.frozen? a = (decide (fr.1 ≤ a.off) && decide (a.off < fr.2)) := by
  unfold World.frozen?; rw [h]

theorem cell?_of {w : World} {B k : Nat} {arr : Array Value} {T : TypeId} {fr : Nat × Nat} (h : w.heap[B]? = some (.cells arr T fr)) : w.cell? ⟨B, k, none⟩ = arr[k]? := by
  simp only [World.cell?, h]; rfl
end

section
variable {M : Mem} {β : Places} {h : View} {w0 w : World} {P : Program}

/-- An object's cell, read. -/
theorem Sim.cell (S : Sim M β h w0 w) {b : Nat} {cs : List V} {esz fz : Nat} {sp : Bool} (hb : h b = some (.cells cs esz fz sp)) :
    ∃ i, β b = some i ∧ esz = i.esz ∧ cs.length = i.ext ∧ ∀ k v, cs[k]? = some v → v.one = true ∧ ∃ c, w.cell? ⟨i.blk, i.off + k, none⟩ = some c ∧ Rel M β v c := by
  obtain ⟨i, hi, _, ho⟩ := S.obj _ _ hb
  cases sp with
  | false =>
    obtain ⟨h1, h2, arr, T, fr, hc⟩ := ho
    exact ⟨i, hi, h1, h2, fun k v hk => by obtain ⟨h3, c, h4, h5⟩ := hc.rel k v hk; exact ⟨h3, c, by rw [cell?_of hc.blk]; exact h4, h5⟩⟩
  | true =>
    obtain ⟨h1, h2, h3⟩ := ho
    exact ⟨i, hi, h1, h2, fun k v hk => by obtain ⟨h4, c, h5, h6⟩ := h3 k v hk; exact ⟨h4, c, S.mem _ _ h5, h6⟩⟩

/-- Cells from a place on: what is there in the world. -/
theorem Sim.readAt (S : Sim M β h w0 w) {g : View} (hg : ∀ b o, g b = some o → h b = some o) {p : V} {c : Value} (hp : Rel M β p c) {n : Nat} {cs : List V} (hr : readAt g p n = some cs) :
    ∃ B O l, c = .pointer (some ⟨B, O, none⟩) ∧ RelL M β cs l ∧ cs.length = n ∧ (∀ v ∈ cs, v.one = true) ∧ ∀ j v, l[j]? = some v → w.cell? ⟨B, O + j, none⟩ = some v := by
  cases p with
  | ptr b off =>
    simp only [Abs.readAt] at hr
    split at hr
    · rename_i cs' esz fz sp hb
      obtain ⟨hle, hlen, hget⟩ := cellsAt_some hr
      obtain ⟨i, hi, _, _, hrel⟩ := S.cell (hg _ _ hb)
      simp only [Rel] at hp
      obtain ⟨j, hj, rfl⟩ := hp
      rw [hi] at hj; cases hj
      let l := cs.mapIdx fun k _ => (w.cell? ⟨i.blk, i.off + off + k, none⟩).getD undef
      have hl : ∀ k v, cs[k]? = some v → ∃ c, w.cell? ⟨i.blk, i.off + off + k, none⟩ = some c ∧ v.one = true ∧ Rel M β v c := fun k v hk => by
        obtain ⟨h1, c, h2, h3⟩ := hrel _ _ (hget k v hk)
        rw [← Nat.add_assoc] at h2
        exact ⟨c, h2, h1, h3⟩
      refine ⟨i.blk, i.off + off, l, rfl, RelL.of_get (by simp [l]) fun k v hk => ?_, hlen, fun v hv => ?_, fun k v hk => ?_⟩
      · obtain ⟨c, h1, _, h3⟩ := hl k v hk
        exact ⟨c, by simp [l, List.getElem?_mapIdx, hk, h1], h3⟩
      · obtain ⟨k, hk⟩ := List.mem_iff_getElem?.1 hv
        obtain ⟨_, _, h2, _⟩ := hl k v hk
        exact h2
      · simp only [l, List.getElem?_mapIdx, Option.map_eq_some_iff] at hk
        obtain ⟨x, hx, rfl⟩ := hk
        obtain ⟨c, h1, _⟩ := hl k x hx
        rw [h1]; rfl
    · cases hr
  | rptr row off =>
    simp only [Abs.readAt] at hr
    obtain ⟨hle, hlen, hget⟩ := cellsAt_some hr
    simp only [Rel] at hp
    obtain ⟨B, O, hrow, rfl⟩ := hp
    let l := cs.mapIdx fun k _ => (w.cell? ⟨B, O + off + k, none⟩).getD undef
    have hl : ∀ k v, cs[k]? = some v → ∃ c, w.cell? ⟨B, O + off + k, none⟩ = some c ∧ v.one = true ∧ Rel M β v c := fun k v hk => by
      obtain ⟨c, h1, _, h3, h4⟩ := hrow.get (hget k v hk)
      rw [← Nat.add_assoc] at h1
      exact ⟨c, S.mem _ _ h1, h3, h4⟩
    refine ⟨B, O + off, l, rfl, RelL.of_get (by simp [l]) fun k v hk => ?_, hlen, fun v hv => ?_, fun k v hk => ?_⟩
    · obtain ⟨c, h1, _, h3⟩ := hl k v hk
      exact ⟨c, by simp [l, List.getElem?_mapIdx, hk, h1], h3⟩
    · obtain ⟨k, hk⟩ := List.mem_iff_getElem?.1 hv
      obtain ⟨_, _, h2, _⟩ := hl k v hk
      exact h2
    · simp only [l, List.getElem?_mapIdx, Option.map_eq_some_iff] at hk
      obtain ⟨x, hx, rfl⟩ := hk
      obtain ⟨c, h1, _⟩ := hl k x hx
      rw [h1]; rfl
  | _ => simp [Abs.readAt] at hr

theorem run_loadCells_at {B O : Nat} {l : List Value} (hl : ∀ j v, l[j]? = some v → w.cell? ⟨B, O + j, none⟩ = some v) : (loadCells ⟨B, O, none⟩ l.length).run P w = .ok l.toArray w :=
  run_loadCells_list (P := P) w ⟨B, O, none⟩ l fun j v hj => by rw [add_none]; exact hl j v hj

end
end Go.Abs
