/-
  ABS, part 17: copy and append.
-/
import Derived.Test.YtfmdgjnjfmgbmaaGreatDoorAbs16
namespace Go.Abs
open Go Go.RowKit
set_option linter.unusedSectionVars false
variable [Syms]

section
variable {P : Program} {M : Mem} {β : Places} {w0 w : World} {hp : Heap} {id N : Nat} {e : Env} {a : Act} {gl : Nat → Option (List V)} {g : View} {o : Oper} {i : I} {eff : Eff}

theorem cell?_heap {w w' : World} (h : w'.heap = w.heap) (x : Addr) : w'.cell? x = w.cell? x := by unfold World.cell?; rw [h]

/-- The cells of a slice's, or text's, first elements. -/
theorem firstCells_run (S : Sim M β hp.get w0 w) (hg : ∀ b o, g b = some o → hp.get b = some o) {v : V} {c : Value} (hr : Rel M β v c) {esz n : Nat} {cs : List V} (h : firstCells g esz n v = some cs) :
    ∃ l, (∀ w' : World, w'.heap = w.heap → (Builtin.firstCells esz n c).run P w' = .ok l.toArray w') ∧ RelL M β cs l ∧ (∀ v ∈ cs, v.one = true) ∧ cs.length = n * esz := by
  cases v <;> simp only [Abs.firstCells] at h
  case nilSlice =>
    simp only [Rel] at hr; subst hr
    split at h
    · rename_i hn; cases h; subst hn
      exact ⟨[], fun w' _ => by simp [Builtin.firstCells], by simp only [RelL], by simp, by simp⟩
    · cases h
  case slice b off len cap =>
    simp only [Rel] at hr
    obtain ⟨j, q, hj, hle, hcap, hext, hsize, A, rfl, hA⟩ := hr
    split at h
    · rename_i hnl
      split at h
      · rename_i cs' es fz sp hb
        split at h
        · rename_i hes
          subst hes
          have hptr : Rel M β (.ptr b off) (.pointer (some ⟨j.blk, j.off + off, none⟩)) := by simp only [Rel]; exact ⟨j, hj, rfl⟩
          have hrd : readAt g (.ptr b off) (n * es) = some cs := by simp only [Abs.readAt, hb]; exact h
          obtain ⟨B, O, l, hp', hl, hlen, hone, hcell⟩ := S.readAt hg hptr hrd
          cases hp'
          refine ⟨l, fun w' hw' => ?_, hl, hone, hlen⟩
          have hln : l.length = n * es := by rw [hl.length, hlen]
          by_cases hn0 : n = 0
          · subst hn0
            simp at hln; subst hln
            simp [Builtin.firstCells, loadCells, loadCellsFrom]
          · have := hA (by omega)
            subst this
            have hload := run_loadCells_at (P := P) (w := w') (B := j.blk) (O := j.off + off) (l := l) (fun k v hk => by rw [cell?_heap hw']; exact hcell k v hk)
            rw [hln] at hload
            simp only [Builtin.firstCells, hload]
        · cases h
      · cases h
    · cases h
  case rslice row off len cap =>
    simp only [Rel] at hr
    obtain ⟨B, O, q, hrow, hle, hcap, A, rfl, hA⟩ := hr
    split at h
    · rename_i hnl
      have hptr : Rel M β (.rptr row off) (.pointer (some ⟨B, O + off, none⟩)) := by simp only [Rel]; exact ⟨B, O, hrow, rfl⟩
      have hrd : readAt g (.rptr row off) (n * esz) = some cs := by simp only [Abs.readAt]; exact h
      obtain ⟨B', O', l, hp', hl, hlen, hone, hcell⟩ := S.readAt hg hptr hrd
      cases hp'
      refine ⟨l, fun w' hw' => ?_, hl, hone, hlen⟩
      have hln : l.length = n * esz := by rw [hl.length, hlen]
      by_cases hn0 : n = 0
      · subst hn0
        simp at hln; subst hln
        simp [Builtin.firstCells, loadCells, loadCellsFrom]
      · have := hA (by omega)
        subst this
        have hload := run_loadCells_at (P := P) (w := w') (B := B) (O := O + off) (l := l) (fun k v hk => by rw [cell?_heap hw']; exact hcell k v hk)
        rw [hln] at hload
        simp only [Builtin.firstCells, hload]
    · cases h
  case str s =>
    simp only [Rel] at hr
    obtain ⟨bs, rfl, rfl⟩ := hr
    rw [bytesOf_length] at h
    split at h
    · rename_i hc
      cases h
      obtain ⟨rfl, hle⟩ := hc
      refine ⟨(bs.data.toList.take n).map fun b => .int .u8 b.toNat, fun w' _ => ?_, ?_, ?_, ?_⟩
      · simp only [Builtin.firstCells, Sem.run_pure]
        congr 1
        apply Array.ext'
        simp [ByteArray.data_extract, List.extract]
      · refine RelL.of_get (by simp [bytesOf]) fun k v hk => ?_
        simp only [bytesOf, List.getElem?_map, ← List.map_take, Option.map_eq_some_iff] at hk
        obtain ⟨x, ⟨y, hy, rfl⟩, rfl⟩ := hk
        exact ⟨.int .u8 y.toNat, by rw [List.getElem?_map, hy]; rfl, by simp only [Rel]⟩
      · intro v hv
        obtain ⟨x, _, rfl⟩ := List.mem_map.1 hv
        rfl
      · simp [bytesOf]; omega
    · cases h
  all_goals cases h

theorem lenOf_run {v : V} {c : Value} (hr : Rel M β v c) {n : Nat} (hv : vlen v = some n) (w : World) : (Builtin.lenOf c).run P w = .ok n w := by
  rcases vlen_rel hr hv with ⟨A, q, rfl, _⟩ | ⟨s, rfl, rfl⟩ <;> simp [Builtin.lenOf]

theorem oneCells {cs : List V} {l : List Value} (hl : RelL M β cs l) (h1 : ∀ v ∈ cs, v.one = true) : ∀ v ∈ l, v.oneCell' = true := fun v hv => by
  obtain ⟨k, hk⟩ := List.mem_iff_getElem?.1 hv
  have hlt : k < cs.length := by
    rw [← hl.length]
    rcases Nat.lt_or_ge k l.length with h | h
    · exact h
    · rw [List.getElem?_eq_none h] at hk; cases hk
  obtain ⟨c, hc, hcr⟩ := hl.get (List.getElem?_eq_getElem hlt)
  rw [hk] at hc; cases hc
  rw [hcr.one]
  exact h1 _ (List.getElem_mem hlt)

/-- Cells laid into an object: what the run does, and what holds then. -/
theorem Sim.storeCells (S : Sim M β hp.get w0 w) {b : Nat} {cs : List V} {esz fz : Nat} (hb : hp.get b = some (.cells cs esz fz false)) {off : Nat} {vs : List V} {ds : List Value} (hds : RelL M β vs ds) (h1 : ∀ v ∈ vs, v.one = true)
    (hfz : fz ≤ off) (hle : off + vs.length ≤ cs.length) :
    ∃ i, β b = some i ∧ esz = i.esz ∧ (Go.storeCells ⟨i.blk, i.off + off, none⟩ ds).run P w = .ok () (w.setCells i.blk (i.off + off) ds) ∧
      Sim M β (hp.put b (some (.cells (putAt cs off vs) esz fz false))).get w0 (w.setCells i.blk (i.off + off) ds) := by
  obtain ⟨i, hi, hesz, hcell, hfrz, S'⟩ := S.store hb hds h1 hfz hle
  have hst := run_storeCells_cells (P := P) i.blk (i.off + off) ds 0 w (fun k hk => by have := hcell k hk; simpa using this) (fun k hk => by have := hfrz k hk; simpa using this) (oneCells hds h1)
  exact ⟨i, hi, hesz, by simpa using hst, S'⟩

theorem f_copy (G : Globs gl M) (E : EnvRel M β N e a) (S : Sim M β hp.get w0 w) (hg : ∀ b o, g b = some o → hp.get b = some o) {c : Call} {t u el : TypeId} {x y : Operand} (ho : o.op = .call c) (hcal : c.callee = .builtin .copy) (hargs : c.args.toList = [x, y]) (hts : c.argTypes.toList = [t, u])
    (hd : P.underlying t = some (.slice el)) {n : Nat} (hn : tSize P el = some n) {x' y' : X} (hx : cX gl x = some x') (hy : cX gl y = some y') (hev : evI g id e (.copy n x' y') = some eff) : Follows P M β w0 w (execOp a.eval o) hp id eff := by
  have hr := cX_rel G E hx
  have hq := cX_rel G E hy
  obtain ⟨callee, args, argTypes⟩ := c
  simp only at hcal hargs hts
  subst hcal
  have ha : args = #[x, y] := Array.toList_inj.1 (by simpa using hargs)
  have ht : argTypes = #[t, u] := Array.toList_inj.1 (by simpa using hts)
  subst ha ht
  simp only [evI, evCopy] at hev
  split at hev
  · cases hev
  · rename_i hns
    simp only [Bool.or_eq_true, not_or, beq_iff_eq] at hns
    split at hev
    · rename_i ld ls hld hls
      split at hev
      · rename_i cs hcs
        obtain ⟨l, hl', hlr, hone, hcl⟩ := firstCells_run (P := P) S hg hq hcs
        have hl := hl' w rfl
        have hlen := lenOf_run (P := P) hq hls w
        rcases vlen_rel hr hld with ⟨A, q, he, hlq⟩ | ⟨s, he, _⟩
        · split at hev
          · rename_i hmn
            cases hev
            rw [hmn] at hl
            have hl0 : l = [] := List.length_eq_zero_iff.1 (by rw [hlr.length, hcl, hmn]; simp)
            subst hl0
            refine Follows.same S (c := .int .i64 0) ?_ (by simp only [Rel])
            cases A with
            | none => simp [execOp, ho, Go.resolve, invoke, builtin, Builtin.copy_, run_underlying hd, he, hlen, tSize_run hn, hmn, hl, goInt]
            | some A => simp [execOp, ho, Go.resolve, invoke, builtin, Builtin.copy_, run_underlying hd, he, hlen, tSize_run hn, hmn, hl, goInt, Go.storeCells]
          · rename_i hmn
            split at hev
            · rename_i b off len cap hxv
              split at hev
              · rename_i old es fz hb
                split at hev
                · rename_i hcond
                  obtain ⟨hes, hfz, hfit⟩ := hcond
                  cases hev
                  rw [hxv] at hr; simp only [Rel] at hr
                  obtain ⟨j, q', hj, hle, _, _, _, A', he', hA⟩ := hr
                  rw [he] at he'; cases he'
                  obtain ⟨i, hi, _, hst, S'⟩ := S.storeCells (P := P) (hg _ _ hb) hlr hone hfz hfit
                  rw [hj] at hi; cases hi
                  have := hA (by omega)
                  subst this
                  refine ⟨β, _, .int .i64 (min ls ld : Nat), .inl ?_, .refl β, fun _ _ => rfl, S', by simp only [Rel]⟩
                  have hl2 : (Builtin.firstCells n (ls.min ld) (a.eval y)).run P w = .ok l.toArray w := hl
                  simp only [execOp, ho, Go.resolve, invoke, builtin, Sem.run_bind, Sem.run_pure, Result.andThen_ok]
                  have hcp : (Builtin.copy_ #[t, u] o.type #[a.eval x, a.eval y]).run P w = .ok (goInt (min ls ld : Nat)) (w.setCells j.blk (j.off + off) l) := by
                    simp [Builtin.copy_, run_underlying hd, he, hlen, tSize_run hn, hl2, hst]
                  simp [hcp, goInt]
                · cases hev
              · cases hev
            · cases hev
        · exfalso
          cases hxv : x'.val e <;> rw [hxv] at hr hld hns <;> simp [vlen] at hld <;> simp only [Rel] at hr
          · simp [isStr] at hns
          · rw [he] at hr; cases hr
          · obtain ⟨i, q, _, _, _, _, _, A, h, _⟩ := hr; rw [he] at h; cases h
          · obtain ⟨B, O, q, _, _, _, A, h, _⟩ := hr; rw [he] at h; cases h
      · cases hev
    · cases hev

end
end Go.Abs
