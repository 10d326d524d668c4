/-
  ABS, part 12: what makes objects, and what builds rows.
-/
import Derived.Test.YtfmdgjnjfmgbmaaGreatDoorAbs11
namespace Go.Abs
open Go Go.RowKit
set_option linter.unusedSectionVars false
variable [Syms]

section
variable {P : Program} {M : Mem} {β : Places} {w0 w : World} {hp : Heap} {id N : Nat} {e : Env} {a : Act} {gl : Nat → Option (List V)} {g : View} {o : Oper} {i : I} {eff : Eff}

theorem RelL.putAt {l vs : List V} {cs ds : List Value} (h : RelL M β l cs) (k : RelL M β vs ds) (off : Nat) : RelL M β (putAt l off vs) (cs.take off ++ ds ++ cs.drop (off + ds.length)) := by
  unfold Abs.putAt
  rw [k.length]
  exact ((h.take off).append k).append (h.drop _)

/-- A row that is made whole: the new object and its pointer. -/
theorem made (S : Sim M β hp.get w0 w) (hid : β id = none) {cs : List V} {l rest : List Value} (hl : RelL M β cs l) (h1 : ∀ v ∈ cs, v.one = true) (esz : Nat) (T : TypeId) :
    ∃ β', β' id = some ⟨w.heap.size, 0, esz, cs.length, l.length + rest.length, none⟩ ∧ β.le β' ∧ (∀ x, x ≠ id → β' x = β x) ∧ Sim M β' (hp.set id (.cells cs esz 0 false)).get w0 (w.alloc (.cells (l ++ rest).toArray T)) := by
  refine ⟨β.set id ⟨w.heap.size, 0, esz, cs.length, l.length + rest.length, none⟩, Places.set_eq _ _ _, β.le_set _ hid, fun x hx => Places.set_ne _ _ hx, ?_⟩
  rw [get_set]
  exact cells_new S hid hl h1 esz T

theorem all_one {cs : List V} (h : cs.all V.one = true) : ∀ v ∈ cs, v.one = true := by simpa using h

theorem f_alloc (S : Sim M β hp.get w0 w) (hid : β id = none) {t : TypeId} (ho : o.op = .alloc t) (hc : cOp P gl (.alloc t) = some i) (hev : evI g id e i = some eff) :
    Follows P M β w0 w (execOp a.eval o) hp id eff := by
  simp only [cOp, Option.bind_eq_some_iff] at hc
  obtain ⟨z, hz, hc⟩ := hc
  split at hc
  · rename_i h1
    cases hc
    obtain ⟨c, hcr, hrel⟩ := tZero_run hz
    simp only [evI, Option.some.injEq] at hev
    subst hev
    obtain ⟨β', hb, hle, hx, S'⟩ := made (rest := []) S hid (hrel M β).cells (all_one h1) z.cells.length t
    refine ⟨β', _, .pointer (some ⟨w.heap.size, 0, none⟩), .inl ?_, hle, hx, S', ?_⟩
    · simp [execOp, ho, Instr.alloc, hcr, newVar, newRow]
    · simp only [Rel]; exact ⟨_, hb, rfl⟩
  · cases hc

theorem f_box (G : Globs gl M) (E : EnvRel M β N e a) (S : Sim M β hp.get w0 w) (hid : β id = none) {t : TypeId} {x : Operand} (ho : o.op = .box t x) (hc : cOp P gl (.box t x) = some i) (hev : evI g id e i = some eff) :
    Follows P M β w0 w (execOp a.eval o) hp id eff := by
  simp only [cOp, Option.map_eq_some_iff] at hc
  obtain ⟨x', hx', rfl⟩ := hc
  simp only [evI] at hev
  split at hev
  · rename_i h1
    cases hev
    obtain ⟨β', hb, hle, hx, S'⟩ := made (rest := []) S hid (cX_rel G E hx').cells (all_one h1) (x'.val e).cells.length t
    refine ⟨β', _, .pointer (some ⟨w.heap.size, 0, none⟩), .inl ?_, hle, hx, S', ?_⟩
    · simp [execOp, ho, Instr.box, newVar, newRow]
    · simp only [Rel]; exact ⟨_, hb, rfl⟩
  · cases hev

/-- Parts laid into a row. -/
theorem fill_run {place : Nat → Option (Nat × Nat)} : ∀ {ps : List (Nat × Nat × V)} {qs : List (Nat × Value)} {cells cells' : List V} {l : List Value}, fillIn cells ps = some cells' → RelL M β cells l →
    ps.length = qs.length → (∀ (k : Nat) (p : Nat × Nat × V) (q : Nat × Value), ps[k]? = some p → qs[k]? = some q → place q.1 = some (p.1, p.2.1) ∧ Rel M β p.2.2 q.2) → (∀ v ∈ cells, v.one = true) →
    ∃ l', Instr.fill place l.toArray qs = some l'.toArray ∧ RelL M β cells' l' ∧ (∀ v ∈ cells', v.one = true) ∧ l'.length = l.length
  | [], [], cells, cells', l, h, hl, _, _, h1 => by
    simp only [fillIn, Option.some.injEq] at h; subst h
    exact ⟨l, rfl, hl, h1, rfl⟩
  | [], _ :: _, _, _, _, _, _, hlen, _, _ => by simp at hlen
  | _ :: _, [], _, _, _, _, _, hlen, _, _ => by simp at hlen
  | (off, size, v) :: ps, (k, c) :: qs, cells, cells', l, h, hl, hlen, hpl, h1 => by
    unfold fillIn at h
    split at h
    · rename_i hc
      obtain ⟨hsz, hfit, hone⟩ := hc
      obtain ⟨hp0, hr0⟩ := hpl 0 _ _ rfl rfl
      simp only at hp0 hr0
      have hcc := hr0.cells
      have hcl : c.cells.size = size := by
        have := hcc.length
        rw [hsz] at this
        simpa using this
      have hll : l.length = cells.length := hl.length
      -- the cells laid in one by one are a splice
      have hsplice : (c.cells.zipIdx.foldl (fun cs (p : Value × Nat) => cs.setIfInBounds (off + p.2) p.1) l.toArray) = (l.take off ++ c.cells.toList ++ l.drop (off + c.cells.toList.length)).toArray := by
        apply Array.ext'
        simp only
        rw [← Array.foldl_toList, Array.toList_zipIdx]
        have key : ∀ (ds : List Value) (k : Nat) (acc : List Value), off + k + ds.length ≤ acc.length →
            ((ds.zipIdx k).foldl (fun cs (p : Value × Nat) => cs.setIfInBounds (off + p.2) p.1) acc.toArray).toList = acc.take (off + k) ++ ds ++ acc.drop (off + k + ds.length) := by
          intro ds
          induction ds with
          | nil => intro k acc _; simp
          | cons d ds ih =>
            intro k acc hk
            simp only [List.zipIdx_cons, List.foldl_cons, List.setIfInBounds_toArray]
            rw [show k + 1 = k + 1 from rfl, ih (k + 1) (acc.set (off + k) d) (by simp at hk ⊢; omega)]
            simp only [List.length_cons] at hk ⊢
            rw [List.take_set, List.drop_set_of_lt (by omega)]
            have : (acc.take (off + (k + 1))).set (off + k) d = acc.take (off + k) ++ [d] := by
              rw [show off + (k + 1) = off + k + 1 by omega, List.take_add_one, List.set_append_right _ _ (by simp; omega)]
              have hlt : off + k < acc.length := by omega
              simp [List.getElem?_eq_getElem hlt]
              rw [show off + k - min (off + k) acc.length = 0 by omega]
              rfl
            rw [this, show off + (k + 1) + ds.length = off + k + (ds.length + 1) by omega]
            simp only [List.append_assoc, List.cons_append, List.nil_append]
        have := key c.cells.toList 0 l (by simp [hcl]; omega)
        simpa using this
      have hcond : ¬ (c.cells.size ≠ size || off + c.cells.size > l.toArray.size) = true := by
        simp only [List.size_toArray, hll, hcl]
        simp; omega
      obtain ⟨l', h2, h3, h4, h5⟩ := fill_run (place := place) h (hl.putAt hcc off) (by simpa using hlen) (fun k p q hp hq => hpl (k + 1) p q (by simpa using hp) (by simpa using hq)) (fun x hx => by
        simp only [Abs.putAt, List.mem_append] at hx
        rcases hx with (hx | hx) | hx
        · exact h1 x (List.mem_of_mem_take hx)
        · exact all_one hone x hx
        · exact h1 x (List.mem_of_mem_drop hx))
      refine ⟨l', ?_, h3, h4, ?_⟩
      · simp only [Instr.fill, hp0]
        rw [if_neg hcond, hsplice]
        exact h2
      · rw [h5]; simp; omega
    · cases h

theorem structParts_some {P : Program} {gl : Nat → Option (List V)} {fs : Array Field} : ∀ {l : List (Nat × Operand)} {ps : List (Nat × Nat × X)}, structParts P gl fs l = some ps →
    ps.length = l.length ∧ ∀ (k : Nat) p q, ps[k]? = some p → l[k]? = some q → ∃ f, fs[q.1]? = some f ∧ tSize P f.type = some p.2.1 ∧ p.1 = f.offset ∧ cX gl q.2 = some p.2.2
  | [], ps, h => by simp [structParts] at h; subst h; exact ⟨rfl, fun k p q hp => by simp at hp⟩
  | x :: l, ps, h => by
    simp only [structParts, List.mapM_cons, bind, pure, Option.bind_eq_some_iff, Option.map_eq_some_iff] at h
    obtain ⟨y, ⟨f, hf, n, hn, x', hx, rfl⟩, ys, hys, h⟩ := h
    cases h
    obtain ⟨h1, h2⟩ := structParts_some (l := l) hys
    refine ⟨by simp [h1], fun k p q hp hq => ?_⟩
    cases k with
    | zero => simp at hp hq; subst hp hq; exact ⟨f, hf, hn, rfl, hx⟩
    | succ k => exact h2 k p q (by simpa using hp) (by simpa using hq)

theorem arrayParts_some {gl : Nat → Option (List V)} {n : Nat} : ∀ {l : List (Nat × Operand)} {ps : List (Nat × Nat × X)}, arrayParts gl n l = some ps →
    ps.length = l.length ∧ ∀ (k : Nat) p q, ps[k]? = some p → l[k]? = some q → p.2.1 = n ∧ p.1 = q.1 * n ∧ cX gl q.2 = some p.2.2
  | [], ps, h => by simp [arrayParts] at h; subst h; exact ⟨rfl, fun k p q hp => by simp at hp⟩
  | x :: l, ps, h => by
    simp only [arrayParts, List.mapM_cons, bind, pure, Option.bind_eq_some_iff, Option.map_eq_some_iff] at h
    obtain ⟨y, ⟨x', hx, rfl⟩, ys, hys, h⟩ := h
    cases h
    obtain ⟨h1, h2⟩ := arrayParts_some (l := l) hys
    refine ⟨by simp [h1], fun k p q hp hq => ?_⟩
    cases k with
    | zero => simp at hp hq; subst hp hq; exact ⟨rfl, rfl, hx⟩
    | succ k => exact h2 k p q (by simpa using hp) (by simpa using hq)

theorem mapM_sizes {P : Program} (w : World) : ∀ (fs : List Field), (∀ f ∈ fs, (P.info? f.type).isSome = true) →
    (fs.mapM (m := Sem) fun f => do pure (f.offset, ← sizeOf f.type)).run P w = .ok (fs.map fun f => (f.offset, P.cellsOf f.type)) w
  | [], _ => by simp
  | f :: fs, h => by
    obtain ⟨i, hi⟩ := Option.isSome_iff_exists.1 (h f (by simp))
    have h1 : (sizeOf f.type).run P w = .ok (P.cellsOf f.type) w := by simp [sizeOf, typeInfo, hi, Program.cellsOf]
    have ih := mapM_sizes w fs fun x hx => h x (by simp [hx])
    simp only [List.mapM_cons, Sem.run_bind, h1, Result.andThen_ok, Sem.run_pure, ih, List.map_cons]

theorem f_build (G : Globs gl M) (E : EnvRel M β N e a) (S : Sim M β hp.get w0 w) {t : TypeId} {parts : Array (Nat × Operand)} (ho : o.op = .build t parts) (hc : cOp P gl (.build t parts) = some i) (hev : evI g id e i = some eff) :
    Follows P M β w0 w (execOp a.eval o) hp id eff := by
  simp only [cOp, Option.bind_eq_some_iff] at hc
  obtain ⟨z, hz, hc⟩ := hc
  obtain ⟨zc, hzr, hzrel⟩ := tZero_run hz
  split at hc
  · rename_i h1
    split at hc
    · rename_i fs hd
      split at hc
      · rename_i hall
        simp only [Option.map_eq_some_iff] at hc
        obtain ⟨ps, hps, rfl⟩ := hc
        obtain ⟨hlen, hparts⟩ := structParts_some hps
        simp only [evI, Option.map_eq_some_iff] at hev
        obtain ⟨cs, hcs, rfl⟩ := hev
        have hsz := mapM_sizes (P := P) w fs.toList (fun f hf => by have := Array.all_eq_true_iff_forall_mem.1 hall f (Array.mem_toList_iff.1 hf); exact this)
        have hplaces : (fs.mapM (m := Sem) fun f => do pure (f.offset, ← sizeOf f.type)).run P w = .ok (fs.map fun f => (f.offset, P.cellsOf f.type)) w := by
          rw [Array.mapM_eq_mapM_toList]
          simp only [Sem.run_map, hsz, Result.andThen_ok]
          congr 1
          apply Array.ext'
          simp
        obtain ⟨l', h2, h3, _, _⟩ := fill_run (M := M) (β := β) (place := fun k => ((fs.map fun f => (f.offset, P.cellsOf f.type))[k]?)) (qs := parts.toList.map fun p => (p.1, a.eval p.2)) hcs (hzrel M β).cells (by simp [hlen])
          (fun k p q hp hq => by
            simp only [List.getElem?_map, Option.map_eq_some_iff] at hp hq
            obtain ⟨p', hp', rfl⟩ := hp
            obtain ⟨q', hq', rfl⟩ := hq
            obtain ⟨f, hf, hn, ho', hx⟩ := hparts k p' q' hp' hq'
            exact ⟨by simp [hf, ho', tSize_cellsOf hn], cX_rel G E hx⟩) (all_one h1)
        refine Follows.same S (c := .agg l'.toArray) ?_ (by simp only [Rel]; exact ⟨_, rfl, h3⟩)
        simp only [execOp, ho, Instr.build, Sem.run_bind, hzr, Result.andThen_ok, run_underlying hd, hplaces]
        have hpt : (parts.map fun x => match x with | (i, x) => (i, a.eval x)).toList = parts.toList.map fun p => (p.1, a.eval p.2) := by simp
        rw [hpt]
        simp only [Array.toArray_toList] at h2
        rw [h2]
        rfl
      · cases hc
    · rename_i len el hd
      simp only [Option.bind_eq_some_iff, Option.map_eq_some_iff] at hc
      obtain ⟨n, hn, ps, hps, rfl⟩ := hc
      obtain ⟨hlen, hparts⟩ := arrayParts_some hps
      simp only [evI, Option.map_eq_some_iff] at hev
      obtain ⟨cs, hcs, rfl⟩ := hev
      obtain ⟨l', h2, h3, _, _⟩ := fill_run (M := M) (β := β) (place := fun k => some (k * n, n)) (qs := parts.toList.map fun p => (p.1, a.eval p.2)) hcs (hzrel M β).cells (by simp [hlen])
        (fun k p q hp hq => by
          simp only [List.getElem?_map, Option.map_eq_some_iff] at hp hq
          obtain ⟨p', hp', rfl⟩ := hp
          obtain ⟨q', hq', rfl⟩ := hq
          obtain ⟨hn', ho', hx⟩ := hparts k p' q' hp' hq'
          exact ⟨by simp [hn', ho'], cX_rel G E hx⟩) (all_one h1)
      refine Follows.same S (c := .agg l'.toArray) ?_ (by simp only [Rel]; exact ⟨_, rfl, h3⟩)
      simp only [execOp, ho, Instr.build, Sem.run_bind, hzr, Result.andThen_ok, run_underlying hd, tSize_run hn]
      have hpt : (parts.map fun x => match x with | (i, x) => (i, a.eval x)).toList = parts.toList.map fun p => (p.1, a.eval p.2) := by simp
      rw [hpt]
      simp only [Array.toArray_toList] at h2
      rw [h2]
      rfl
    · cases hc
  · cases hc

theorem zeros_toList (len n : Nat) (zc : Array Value) (hz : zc.size = n) (hn : 0 < n) : ((Array.range (len * n)).map fun k => zc[k % zc.size]!).toList = (List.replicate len zc.toList).flatten := by
  subst hz
  apply List.ext_getElem?
  intro k
  simp only [Array.toList_map, Array.toList_range, List.getElem?_map]
  have key : ∀ (len k : Nat), (List.replicate len zc.toList).flatten[k]? = if k < len * zc.size then some (zc[k % zc.size]!) else none := by
    intro len
    induction len with
    | zero => intro k; simp
    | succ len ih =>
      intro k
      rw [List.replicate_succ, List.flatten_cons]
      by_cases hk : k < zc.size
      · rw [List.getElem?_append_left (by simpa using hk), if_pos (by rw [Nat.succ_mul]; omega), Nat.mod_eq_of_lt hk]
        simp [hk]
      · rw [List.getElem?_append_right (by simpa using hk), ih]
        simp only [Array.length_toList]
        have hm : k % zc.size = (k - zc.size) % zc.size := Nat.mod_eq_sub_mod (by omega)
        rw [hm, Nat.succ_mul]
        by_cases h2 : k < len * zc.size + zc.size
        · rw [if_pos (by omega), if_pos h2]
        · rw [if_neg (by omega), if_neg h2]
  rw [key]
  by_cases hk : k < len * zc.size
  · rw [if_pos hk]; simp [hk]
  · rw [if_neg hk]; simp; omega

theorem RelL.replicate {l : List V} {cs : List Value} (h : RelL M β l cs) : ∀ n, RelL M β (List.replicate n l).flatten (List.replicate n cs).flatten
  | 0 => by simp [RelL]
  | n + 1 => by
    rw [List.replicate_succ, List.replicate_succ, List.flatten_cons, List.flatten_cons]
    exact h.append (RelL.replicate h n)

theorem f_buildSlice (G : Globs gl M) (E : EnvRel M β N e a) (S : Sim M β hp.get w0 w) (hid : β id = none) {t : TypeId} {len : Nat} {parts : Array (Nat × Operand)} (ho : o.op = .buildSlice t len parts) (hc : cOp P gl (.buildSlice t len parts) = some i)
    (hev : evI g id e i = some eff) : Follows P M β w0 w (execOp a.eval o) hp id eff := by
  simp only [cOp] at hc
  split at hc
  · rename_i el hd
    simp only [Option.bind_eq_some_iff] at hc
    obtain ⟨n, hn, z, hz, hc⟩ := hc
    obtain ⟨zc, hzr, hzrel⟩ := tZero_run hz
    split at hc
    · rename_i hcond
      obtain ⟨hle, hzl, hpos, h1⟩ := hcond
      simp only [Option.map_eq_some_iff] at hc
      obtain ⟨ps, hps, rfl⟩ := hc
      obtain ⟨hlen, hparts⟩ := arrayParts_some hps
      simp only [evI, Option.map_eq_some_iff] at hev
      obtain ⟨cs, hcs, rfl⟩ := hev
      have hzs : zc.cells.size = n := by have := (hzrel M β).cells.length; rw [hzl] at this; simpa using this
      have hzz := zeros_toList len n zc.cells hzs hpos
      obtain ⟨l', h2, h3, h4, h5⟩ := fill_run (M := M) (β := β) (place := fun k => some (k * n, n)) (qs := parts.toList.map fun p => (p.1, a.eval p.2)) hcs ((hzrel M β).cells.replicate len) (by simp [hlen])
        (fun k p q hp hq => by
          simp only [List.getElem?_map, Option.map_eq_some_iff] at hp hq
          obtain ⟨p', hp', rfl⟩ := hp
          obtain ⟨q', hq', rfl⟩ := hq
          obtain ⟨hn', ho', hx⟩ := hparts k p' q' hp' hq'
          exact ⟨by simp [hn', ho'], cX_rel G E hx⟩) (fun v hv => by
            obtain ⟨l, hl, hvl⟩ := List.mem_flatten.1 hv
            rw [(List.mem_replicate.1 hl).2] at hvl
            exact all_one h1 v hvl)
      obtain ⟨β', hb, hle', hx, S'⟩ := made (rest := []) S hid h3 h4 n el
      refine ⟨β', _, .slice (some ⟨w.heap.size, 0, none⟩) len len, .inl ?_, hle', hx, S', ?_⟩
      · have hfill : Instr.fill (fun k => some (k * n, n)) ((Array.range (len * n)).map fun k => zc.cells[k % zc.cells.size]!) (parts.map fun x => match x with | (i, x) => (i, a.eval x)).toList = some l'.toArray := by
          have hpt : (parts.map fun x => match x with | (i, x) => (i, a.eval x)).toList = parts.toList.map fun p => (p.1, a.eval p.2) := by simp
          have harr : (Array.range (len * n)).map (fun k => zc.cells[k % zc.cells.size]!) = ((List.replicate len zc.cells.toList).flatten).toArray := by
            apply Array.ext'
            rw [hzz]
          rw [hpt, harr]
          exact h2
        by_cases hl0 : len * n = 0
        · have hl0' : len = 0 := by
            rcases Nat.mul_eq_zero.1 hl0 with h | h
            · exact h
            · omega
          subst hl0'
          simp only [Nat.zero_mul] at hfill
          have hr0 : ∀ f : Nat → Value, (Array.range 0).map f = #[] := fun _ => by simp
          rw [hr0] at hfill
          simp only [execOp, ho, Instr.buildSlice, Sem.run_bind, run_underlying hd, Result.andThen_ok, tSize_run hn, Nat.zero_mul, if_true, Sem.run_pure, Sem.run_ite, hr0]
          rw [if_neg (by decide)]
          simp only [hfill]
          simp [newRow]
        · have hgt : ¬ (len * n > 2 ^ 24) := by omega
          simp only [execOp, ho, Instr.buildSlice, Sem.run_bind, run_underlying hd, Result.andThen_ok, tSize_run hn, Sem.run_ite, if_neg hgt, if_neg hl0, hzr, Sem.run_pure]
          rw [hfill]
          simp [newRow]
      · simp only [Rel]
        have hcl : cs.length = len * n := by
          have e1 := h3.length
          have e2 := congrArg List.length hzz
          simp only [Array.length_toList, Array.size_map, Array.size_range] at e2
          rw [h5, ← e2] at e1
          exact e1.symm
        refine ⟨_, len, hb, Nat.le_refl _, (fun k hk => by cases hk; rfl), (fun h => by cases h), ?_, _, rfl, fun _ => rfl⟩
        rw [h3.length, hcl]
        simp
    · cases hc
  · cases hc

end
end Go.Abs
