/-
  ABS, part 13: stores, and what else turns an object: the object's block turns, nothing else.
-/
import Derived.Test.YtfmdgjnjfmgbmaaGreatDoorAbs12
namespace Go.Abs
open Go Go.RowKit
set_option linter.unusedSectionVars false
variable [Syms]

section
variable {P : Program} {M : Mem} {β : Places} {w0 w : World} {hp : Heap} {id N : Nat} {e : Env} {a : Act} {gl : Nat → Option (List V)} {g : View} {o : Oper} {i : I} {eff : Eff}

theorem setCells_heap_ne (B : Nat) : ∀ (vs : List Value) (O : Nat) (w : World) (r : Nat), r ≠ B → (w.setCells B O vs).heap[r]? = w.heap[r]?
  | [], _, _, _, _ => rfl
  | v :: vs, O, w, r, h => by
    rw [World.setCells, setCells_heap_ne B vs (O + 1) _ r h]
    exact Below.heap_setCell _ _ _ _ h

theorem setCells_size (B : Nat) : ∀ (vs : List Value) (O : Nat) (w : World), (w.setCells B O vs).heap.size = w.heap.size
  | [], _, _ => rfl
  | v :: vs, O, w => by rw [World.setCells, setCells_size B vs]; simp

theorem setCells_os (B : Nat) : ∀ (vs : List Value) (O : Nat) (w : World), (w.setCells B O vs).os = w.os ∧ (w.setCells B O vs).tape = w.tape ∧ (w.setCells B O vs).output = w.output
  | [], _, _ => ⟨rfl, rfl, rfl⟩
  | v :: vs, O, w => by
    obtain ⟨h1, h2, h3⟩ := setCells_os B vs (O + 1) (w.setCell ⟨B, O, none⟩ v)
    exact ⟨h1, h2, h3⟩

theorem setCells_heap (B : Nat) : ∀ (vs : List Value) (O : Nat) (w : World) (arr : Array Value) (T : TypeId) (fr : Nat × Nat), w.heap[B]? = some (.cells arr T fr) → O + vs.length ≤ arr.size →
    (w.setCells B O vs).heap[B]? = some (.cells (arr.toList.take O ++ vs ++ arr.toList.drop (O + vs.length)).toArray T fr)
  | [], O, w, arr, T, fr, h, _ => by simp [World.setCells, h]
  | v :: vs, O, w, arr, T, fr, h, hle => by
    rw [World.setCells]
    have h1 : (w.setCell ⟨B, O, none⟩ v).heap[B]? = some (.cells (arr.setIfInBounds O v) T fr) := by
      simp only [World.setCell, Array.getElem?_modify, if_true, h, Option.map_some]
      rfl
    rw [setCells_heap B vs (O + 1) _ _ T fr h1 (by simp at hle ⊢; omega)]
    congr 3
    simp only [Array.toList_setIfInBounds, List.length_cons] at hle ⊢
    have hlt : O < arr.toList.length := by simp; omega
    rw [List.take_set, List.drop_set_of_lt (by omega)]
    have : (arr.toList.take (O + 1)).set O v = arr.toList.take O ++ [v] := by
      rw [List.take_add_one, List.set_append_right _ _ (by simp; omega)]
      simp only [List.getElem?_eq_getElem hlt, Option.toList_some, List.length_take]
      rw [show O - min O arr.toList.length = 0 by omega]
      rfl
    rw [this, show O + 1 + vs.length = O + (vs.length + 1) by omega]
    simp

theorem three_get {α : Type} (l vs : List α) {off : Nat} (h : off + vs.length ≤ l.length) (k : Nat) :
    (l.take off ++ vs ++ l.drop (off + vs.length))[k]? = if k < off then l[k]? else if k < off + vs.length then vs[k - off]? else l[k]? := by
  by_cases h1 : k < off
  · rw [if_pos h1, List.append_assoc, List.getElem?_append_left (by simp; omega), List.getElem?_take, if_pos h1]
  · rw [if_neg h1, List.append_assoc, List.getElem?_append_right (by simp; omega)]
    have hl : (l.take off).length = off := by simp; omega
    rw [hl]
    by_cases h2 : k < off + vs.length
    · rw [if_pos h2, List.getElem?_append_left (by omega)]
    · rw [if_neg h2, List.getElem?_append_right (by omega), List.getElem?_drop]
      congr 1
      omega

/-- An object's cells are written. -/
theorem Sim.store (S : Sim M β hp.get w0 w) {b : Nat} {cs : List V} {esz fz : Nat} (hb : hp.get b = some (.cells cs esz fz false)) {off : Nat} {vs : List V} {ds : List Value} (hds : RelL M β vs ds) (h1 : ∀ v ∈ vs, v.one = true)
    (hfz : fz ≤ off) (hle : off + vs.length ≤ cs.length) :
    ∃ i, β b = some i ∧ esz = i.esz ∧ (∀ j, j < ds.length → (w.cell? ⟨i.blk, i.off + off + j, none⟩).isSome = true) ∧ (∀ j, j < ds.length → w.frozen? ⟨i.blk, i.off + off + j, none⟩ = false) ∧
      Sim M β (hp.put b (some (.cells (putAt cs off vs) esz fz false))).get w0 (w.setCells i.blk (i.off + off) ds) := by
  obtain ⟨i, hi, hbase, hesz, hext, arr, T, fr, C⟩ := S.obj _ _ hb
  have hdl : ds.length = vs.length := hds.length
  have hfit : i.off + off + ds.length ≤ arr.size := by have := C.fits; omega
  refine ⟨i, hi, hesz, fun j hj => ?_, fun j hj => ?_, ?_⟩
  · rw [cell?_of C.blk]
    have : i.off + off + j < arr.size := by omega
    simp [this]
  · rw [frozen?_of (a := ⟨i.blk, i.off + off + j, none⟩) C.blk]
    exact C.thaw _ (by simp only; omega)
  · have hnew := setCells_heap i.blk ds (i.off + off) w arr T fr C.blk hfit
    have hkeep : Keeps M i.blk w (w.setCells i.blk (i.off + off) ds) := by
      obtain ⟨h2, h3, h4⟩ := setCells_os i.blk ds (i.off + off) w
      refine ⟨h2, h3, h4, by rw [setCells_size]; exact Nat.le_refl _, fun r hr _ => setCells_heap_ne _ _ _ _ _ hr, fun x c hx hxc => ?_, fun r ob hr hrc => ?_⟩
      · by_cases hxb : x.block = i.blk
        · have hlt := C.free x c hx hxb
          rw [World.cell?_setCells_out _ _ _ _ _ (fun _ _ => .inl (by omega))]
          exact hxc
        · rw [← hxc]; exact cell?_eq (setCells_heap_ne _ _ _ _ _ hxb)
      · by_cases hrb : r = i.blk
        · subst hrb
          obtain ⟨es, clock, rfl⟩ := S.maps _ _ hr
          rw [C.blk] at hrc
          cases hrc
        · rw [← hrc]; exact setCells_heap_ne _ _ _ _ _ hrb
    have S2 : Sim M β (upd hp.get b none) w0 (w.setCells i.blk (i.off + off) ds) := (S.drop b).change hkeep hbase (fun b' o' i' hb' hi' hown => by
      by_cases e : b' = b
      · subst e; rw [upd_eq] at hb'; cases hb'
      · rw [upd_ne _ _ e] at hb'
        exact S.sep b' b o' _ i' i e hb' hb hi' hi hown rfl)
    have hlen : (putAt cs off vs).length = cs.length := by simp [Abs.putAt]; omega
    have S3 := S2.put (b := b) (i := i) (o := .cells (putAt cs off vs) esz fz false) hi hbase
      ⟨hesz, by rw [hlen]; exact hext, _, T, fr, ⟨hnew, by rw [← C.size]; simp; omega, fun k hk => C.thaw k (by simp at hk; omega), by rw [hlen]; have := C.fits; simp; omega, fun k v hk => ?_, by rw [hlen]; exact C.fzle, fun he k c hk hc => ?_, C.free⟩⟩
      (fun _ b' o' i' hne hb' hi' hown => by
        rw [upd_ne _ _ hne] at hb'
        exact S.sep b' b o' _ i' i hne hb' hb hi' hi hown rfl)
    · have hu : upd (upd hp.get b none) b (some (AObj.cells (putAt cs off vs) esz fz false)) = (hp.put b (some (.cells (putAt cs off vs) esz fz false))).get := by
        rw [get_put]
        funext x
        by_cases e : x = b
        · subst e; rw [upd_eq, upd_eq]
        · rw [upd_ne _ _ e, upd_ne _ _ e, upd_ne _ _ e]
      rw [← hu]; exact S3
    · rw [Abs.putAt, three_get _ _ hle] at hk
      have hA : ∀ k', ((arr.toList.take (i.off + off) ++ ds ++ arr.toList.drop (i.off + off + ds.length)).toArray)[k']? = if k' < i.off + off then arr[k']? else if k' < i.off + off + ds.length then ds[k' - (i.off + off)]? else arr[k']? := fun k' => by
        rw [List.getElem?_toArray, three_get _ _ (by simpa using hfit)]; simp
      rw [hA]
      by_cases h2 : k < off
      · rw [if_pos h2] at hk
        rw [if_pos (by omega)]
        exact C.rel k v hk
      · rw [if_neg h2] at hk
        rw [if_neg (by omega)]
        by_cases h3 : k < off + vs.length
        · rw [if_pos h3] at hk
          rw [if_pos (by omega), show i.off + k - (i.off + off) = k - off by omega]
          exact ⟨h1 v (List.mem_of_getElem? hk), hds.get hk⟩
        · rw [if_neg h3] at hk
          rw [if_neg (by omega)]
          exact C.rel k v hk
    · have hA : ((arr.toList.take (i.off + off) ++ ds ++ arr.toList.drop (i.off + off + ds.length)).toArray)[i.off + k]? = arr[i.off + k]? := by
        rw [List.getElem?_toArray, three_get _ _ (by simpa using hfit), if_pos (by omega)]; simp
      rw [hA] at hc
      exact C.ice (by omega) k c (by omega) hc

theorem f_store (G : Globs gl M) (E : EnvRel M β N e a) (S : Sim M β hp.get w0 w) (hg : ∀ b o, g b = some o → hp.get b = some o) {t : TypeId} {x y : Operand} (ho : o.op = .store t x y) (hc : cOp P gl (.store t x y) = some i) (hev : evI g id e i = some eff) :
    Follows P M β w0 w (execOp a.eval o) hp id eff := by
  simp only [cOp, Option.bind_eq_some_iff, Option.map_eq_some_iff] at hc
  obtain ⟨n, hn, x', hx, y', hy, rfl⟩ := hc
  have hr := cX_rel G E hx
  have hq := (cX_rel G E hy).cells
  simp only [evI] at hev
  split at hev
  · rename_i b off hv
    rw [hv] at hr; simp only [Rel] at hr
    obtain ⟨j, hj, he⟩ := hr
    split at hev
    · rename_i cs esz fz hb
      split at hev
      · rename_i hcond
        obtain ⟨hlen, hfz, hle, hone⟩ := hcond
        cases hev
        obtain ⟨i, hi, hesz, hcell, hfrz, S'⟩ := S.store (hg _ _ hb) hq (all_one hone) hfz (by omega)
        rw [hj] at hi; cases hi
        have hsz : (a.eval y).cells.size = n := by have := hq.length; rw [hlen] at this; simpa using this
        refine ⟨β, _, undef, .inr ⟨?_, rfl⟩, .refl β, fun _ _ => rfl, S', undef_rel _ _⟩
        have hone' : ∀ v ∈ (a.eval y).cells.toList, v.oneCell' = true := fun v hv => by
          obtain ⟨k, hk⟩ := List.mem_iff_getElem?.1 hv
          have hlt : k < (y'.val e).cells.length := by
            rw [← hq.length]
            rcases Nat.lt_or_ge k (a.eval y).cells.toList.length with h | h
            · exact h
            · rw [List.getElem?_eq_none h] at hk; cases hk
          obtain ⟨c, hc, hcr⟩ := hq.get (List.getElem?_eq_getElem hlt)
          rw [hk] at hc; cases hc
          rw [hcr.one]
          exact all_one hone _ (List.getElem_mem hlt)
        have hst := run_storeCells_cells (P := P) j.blk (j.off + off) (a.eval y).cells.toList 0 w (fun k hk => by have := hcell k hk; simpa using this) (fun k hk => by have := hfrz k hk; simpa using this) hone'
        simp only [Nat.add_zero] at hst
        simp [execOp, ho, he, Instr.storeAt, Instr.sureAddr, storeVar, tSize_run hn, hsz, hst]
      · cases hev
    · cases hev
  · cases hev

end
end Go.Abs
