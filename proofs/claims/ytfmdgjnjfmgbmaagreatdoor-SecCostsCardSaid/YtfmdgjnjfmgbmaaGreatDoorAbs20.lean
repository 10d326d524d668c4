/-
  ABS, part 20: steps over maps.
-/
import Derived.Test.YtfmdgjnjfmgbmaaGreatDoorAbs19
namespace Go.Abs
open Go Go.RowKit
set_option linter.unusedSectionVars false
variable [Syms]

section
variable {P : Program} {M : Mem} {β : Places} {w0 w : World} {hp : Heap} {id N : Nat} {e : Env} {a : Act} {gl : Nat → Option (List V)} {g : View} {o : Oper} {i : I} {eff : Eff}

theorem RelEnt.filter (p : Nat → Bool) : ∀ {es : List (V × V × Nat)} {ms : List MapEntry}, RelEnt M β es ms → RelEnt M β (es.filter fun e => p e.2.2) (ms.filter fun m => p m.born)
  | [], _, h => by simp only [RelEnt] at h; subst h; rfl
  | x :: es, _, h => by
    simp only [RelEnt] at h
    obtain ⟨m, ms, rfl, h1, h2, h3, ht⟩ := h
    simp only [List.filter_cons, h3]
    split
    · exact ⟨m, _, rfl, h1, h2, h3, ht.filter p⟩
    · exact ht.filter p

theorem RelEnt.append : ∀ {es es' : List (V × V × Nat)} {ms ms' : List MapEntry}, RelEnt M β es ms → RelEnt M β es' ms' → RelEnt M β (es ++ es') (ms ++ ms')
  | [], _, _, _, h, h' => by simp only [RelEnt] at h; subst h; exact h'
  | x :: es, _, _, _, h, h' => by
    simp only [RelEnt] at h
    obtain ⟨m, ms, rfl, h1, h2, h3, ht⟩ := h
    exact ⟨m, _, rfl, h1, h2, h3, ht.append h'⟩

theorem RelEnt.all (p : Nat → Bool) : ∀ {es : List (V × V × Nat)} {ms : List MapEntry}, RelEnt M β es ms → (ms.all fun m => p m.born) = es.all fun e => p e.2.2
  | [], _, h => by simp only [RelEnt] at h; subst h; rfl
  | x :: es, _, h => by
    simp only [RelEnt] at h
    obtain ⟨m, ms, rfl, h1, h2, h3, ht⟩ := h
    simp only [List.all_cons, h3, ht.all p]

theorem RelEnt.find (p : Nat → Bool) : ∀ {es : List (V × V × Nat)} {ms : List MapEntry}, RelEnt M β es ms → ∀ {x}, es.find? (fun e => p e.2.2) = some x → ∃ m, ms.find? (fun m => p m.born) = some m ∧ Rel M β x.1 m.key ∧ Rel M β x.2.1 m.val
  | [], _, _, x, hx => by simp at hx
  | y :: es, _, h, x, hx => by
    simp only [RelEnt] at h
    obtain ⟨m, ms, rfl, h1, h2, h3, ht⟩ := h
    cases hp : p y.2.2 with
    | true =>
      simp only [List.find?_cons, h3, hp] at hx ⊢
      cases hx
      exact ⟨m, rfl, h1, h2⟩
    | false =>
      simp only [List.find?_cons, h3, hp] at hx ⊢
      exact ht.find p hx

/-- What a draw among candidates comes to. -/
theorem run_mapNext (S : Sim M β hp.get w0 w) {n : Nat} (hn : 0 < n) : ∃ k w', k < n ∧ (choose (.mapNext n)).run P w = .ok k w' ∧ (w' = w ∨ w' = w.drew) ∧ Sim M β hp.get w0 w' ∧ w'.heap = w.heap := by
  by_cases h : n ≤ 1
  · exact ⟨0, w, hn, by simp [Question.forced, h], .inl rfl, S, rfl⟩
  · refine ⟨w.tape w.drawn (.mapNext n) % n, w.drew, Nat.mod_lt _ hn, by simp [Question.forced, Question.cut, h], .inr rfl, S.drew, rfl⟩

def stepHeap (hp : Heap) (c : V × Option (Nat × AObj)) : Heap := match c.2 with | some (b, obj) => hp.set b obj | none => hp

theorem tup_false : Rel M β (.tuple [.bool false]) (.tuple #[.bool false]) := by simp only [Rel, RelL]; exact ⟨_, rfl, _, _, rfl, rfl, rfl⟩

theorem tup_entry {k v : V} {c d : Value} (h : Rel M β k c) (h' : Rel M β v d) : Rel M β (.tuple [.bool true, k, v]) (.tuple #[.bool true, c, d]) := by
  simp only [Rel, RelL]; exact ⟨_, rfl, _, _, rfl, rfl, _, _, rfl, h, _, _, rfl, h', rfl⟩

theorem filter_range {α : Type} [Inhabited α] (l : List α) (p : α → Bool) : l.filter p = ((List.range l.length).filter fun i => p (l.getD i default)).map fun i => l.getD i default := by
  have hl : l = (List.range l.length).map fun i => l.getD i default := by
    apply List.ext_getElem?
    intro k
    simp only [List.getElem?_map]
    by_cases hk : k < l.length
    · simp [hk]
    · simp [hk]
  conv => lhs; rw [hl, List.filter_map]
  rfl

theorem RelKs.get : ∀ {ks : List V} {ms : List MapEntry}, RelKs M β ks ms → ∀ {k : Nat} {v : V}, ks[k]? = some v → ∃ m, ms[k]? = some m ∧ v.imm = true ∧ Rel M β v m.key
  | [], _, _, k, v, hk => by simp at hk
  | x :: ks, _, h, k, v, hk => by
    simp only [RelKs] at h
    obtain ⟨m, ms, rfl, h1, h2, ht⟩ := h
    cases k with
    | zero => simp at hk; subst hk; exact ⟨m, rfl, h1, h2⟩
    | succ k => simpa using ht.get (by simpa using hk)

theorem RelVs.get : ∀ {ks : List V} {ms : List MapEntry}, RelVs M β ks ms → ∀ {k : Nat} {v : V}, ks[k]? = some v → ∃ m, ms[k]? = some m ∧ v.imm = true ∧ Rel M β v m.val
  | [], _, _, k, v, hk => by simp at hk
  | x :: ks, _, h, k, v, hk => by
    simp only [RelVs] at h
    obtain ⟨m, ms, rfl, h1, h2, ht⟩ := h
    cases k with
    | zero => simp at hk; subst hk; exact ⟨m, rfl, h1, h2⟩
    | succ k => simpa using ht.get (by simpa using hk)

theorem f_nextM (G : Globs gl M) (E : EnvRel M β N e a) (S : Sim M β hp.get w0 w) {x : Operand} (ho : o.op = .next x false) {x' : X} (hx : cX gl x = some x') {cs : List (V × Option (Nat × AObj))} (hev : nextM hp (x'.val e) = some cs) :
    ∃ c ∈ cs, ∃ w' cv, (execOp a.eval o).run P w = .ok (.value cv) w' ∧ Rel M β c.1 cv ∧ Sim M β (stepHeap hp c).get w0 w' := by
  have hr := cX_rel G E hx
  unfold nextM at hev
  split at hev
  · rename_i b hv
    rw [hv] at hr; simp only [Rel] at hr
    obtain ⟨j, hj, he⟩ := hr
    split at hev
    · -- over nothing
      rename_i s1 s2 s3 hb
      cases hev
      obtain ⟨j', hj', hbase, ⟨r, hw, hr⟩, hM, hoff⟩ := S.obj _ _ hb
      rw [hj] at hj'; cases hj'
      simp only at hr
      subst hr
      have hgo := run_getObj (P := P) hw (fun _ _ _ h => by cases h)
      rw [hoff] at he
      refine ⟨_, List.mem_singleton.2 rfl, w, .tuple #[.bool false], ?_, tup_false, S⟩
      simp [execOp, ho, he, Instr.next, hgo]
    · rename_i m since seen last hb
      split at hev
      · rename_i es clock fzn hm
        split at hev
        · cases hev
        · rename_i hguard
          cases hev
          obtain ⟨j', hj', hbase, ⟨r, hw, jm, hjm, hr⟩, hM, hoff⟩ := S.obj _ _ hb
          rw [hj] at hj'; cases hj'
          subst hr
          obtain ⟨jm', hjm', _, ces, hwm, hent, hborn, hnd, _⟩ := S.obj _ _ hm
          rw [hjm] at hjm'; cases hjm'
          have hgo := run_getObj (P := P) hw (fun _ _ _ h => by cases h)
          have hgm := run_getObj (P := P) hwm (fun _ _ _ h => by cases h)
          rw [hoff] at he
          have hg1 : (!seen.toArray.isEmpty && !ces.isEmpty && ces.all (fun m => decide (m.born ≥ last))) = false := by
            have h1 := hent.all (fun b => Nat.ble last b)
            have h2 := hent.length
            have h3 : ces.all (fun m => decide (m.born ≥ last)) = es.all fun e => Nat.ble last e.2.2 := by
              rw [← h1, ← Array.all_toList]
              congr 1
              funext m
              rw [Bool.eq_iff_iff]; simp [Nat.ble_eq]
            have h4 : ces.isEmpty = es.isEmpty := by
              rw [Bool.eq_iff_iff]
              simp only [Array.isEmpty_iff_size_eq_zero, List.isEmpty_iff_length_eq_zero, ← h2, Array.length_toList]
            have h5 : seen.toArray.isEmpty = seen.isEmpty := by simp
            rw [h3, h4, h5]
            simpa using hguard
          -- the candidates
          let p1 : Nat → Bool := fun b => !seen.contains b
          let L := (es.filter fun e => p1 e.2.2)
          let old := L.filter fun e => Nat.blt e.2.2 since
          let new := L.filter fun e => !Nat.blt e.2.2 since
          let cL := ces.toList.filter fun m => p1 m.born
          have hLr : RelEnt M β L cL := hent.filter p1
          have hOr : RelEnt M β old (cL.filter fun m => Nat.blt m.born since) := hLr.filter (fun b => Nat.blt b since)
          have hNr : RelEnt M β new (cL.filter fun m => !Nat.blt m.born since) := hLr.filter (fun b => !Nat.blt b since)
          have hAll := hOr.append hNr
          have hleft : (ces.filter fun e => !seen.toArray.contains e.born).toList = cL := by simp [cL, p1]
          have hold : ((ces.filter fun e => !seen.toArray.contains e.born).filter (fun e => decide (e.born < since))).toList = cL.filter fun m => Nat.blt m.born since := by
            rw [Array.toList_filter, hleft]
            congr 1
            funext m
            rw [Bool.eq_iff_iff]; simp
          have hnew : ((ces.filter fun e => !seen.toArray.contains e.born).filter (fun e => decide (e.born ≥ since))).toList = cL.filter fun m => !Nat.blt m.born since := by
            rw [Array.toList_filter, hleft]
            congr 1
            funext m
            have hb : Nat.blt m.born since = decide (m.born < since) := by rw [Bool.eq_iff_iff]; simp
            rw [hb]
            by_cases h : m.born < since
            · simp [h]
            · simp [h]; omega
          have holdE : ((ces.filter fun e => !seen.toArray.contains e.born).filter (fun e => decide (e.born < since))).isEmpty = old.isEmpty := by
            rw [Bool.eq_iff_iff]
            simp only [Array.isEmpty_iff_size_eq_zero, List.isEmpty_iff_length_eq_zero, ← hOr.length, ← hold, Array.length_toList]
          let cands : Array (Option MapEntry) := (if ((ces.filter fun e => !seen.toArray.contains e.born).filter (fun e => decide (e.born < since))).isEmpty then #[none] else #[]) ++
            (((ces.filter fun e => !seen.toArray.contains e.born).filter (fun e => decide (e.born < since))) ++ ((ces.filter fun e => !seen.toArray.contains e.born).filter (fun e => decide (e.born ≥ since)))).map some
          have hcands : cands.toList = (if old.isEmpty then [none] else []) ++ ((cL.filter fun m => Nat.blt m.born since) ++ (cL.filter fun m => !Nat.blt m.born since)).map some := by
            simp only [cands, Array.toList_append, Array.toList_map, hold, hnew, holdE]
            split <;> rfl
          have hpos : 0 < cands.size := by
            rw [← Array.length_toList, hcands]
            by_cases h : old.isEmpty
            · simp [h]
            · have : (cL.filter fun m => Nat.blt m.born since).length ≠ 0 := by
                rw [hOr.length]
                intro h0
                exact h (List.isEmpty_iff_length_eq_zero.2 h0)
              simp [h]; omega
          obtain ⟨k, w', hk, hch, hww, S', hheap⟩ := run_mapNext (P := P) S hpos
          have hrun : ∀ (K : Sem Value), (match cands[k]? with
              | some (some e) => do
                setObj j.blk (.mapIter (some jm.blk) since (seen.toArray.push e.born) clock)
                pure (.tuple #[.bool true, e.key, e.val])
              | some none => pure (.tuple #[.bool false])
              | none => stuck "Next: no such candidate" : Sem Value) = K → ∀ cv w2, K.run P w' = .ok cv w2 → (execOp a.eval o).run P w = .ok (.value cv) w2 := by
            intro K hK cv w2 hKr
            have hnx : (Instr.next (a.eval x) false o.type).run P w = .ok cv w2 := by
              simp only [he, Nat.zero_add, Instr.next, Sem.run_bind, hgo, Result.andThen_ok, hgm, hg1, Bool.false_eq_true, if_false]
              have hch' : (choose (.mapNext cands.size)).run P w = .ok k w' := hch
              simp only [cands] at hch' hK
              simp only [hch', Result.andThen_ok]
              rw [← hKr, ← hK]
              rfl
            simp only [execOp, ho, Sem.run_bind, hnx, Result.andThen_ok, Sem.run_pure]
          have hck : cands[k]? = cands.toList[k]? := by simp
          by_cases hoe : old.isEmpty
          · rw [hcands, if_pos hoe] at hck
            cases k with
            | zero =>
              simp at hck
              refine ⟨(.tuple [.bool false], none), ?_, w', .tuple #[.bool false], hrun _ rfl _ _ (by rw [hck]; rfl), tup_false, S'⟩
              show _ ∈ (if old.isEmpty then _ else _)
              rw [if_pos hoe]
              exact List.mem_cons_self
            | succ k =>
              simp only [List.singleton_append, List.getElem?_cons_succ, List.getElem?_map] at hck
              have hlt : k < ((cL.filter fun m => Nat.blt m.born since) ++ (cL.filter fun m => !Nat.blt m.born since)).length := by
                rw [← Array.length_toList, hcands, if_pos hoe] at hk
                simpa using hk
              have hlt2 : k < (old ++ new).length := by rw [← hAll.length]; exact hlt
              obtain ⟨m', hm', hmk, hmv, hmb⟩ := hAll.get (List.getElem?_eq_getElem hlt2)
              rw [hm'] at hck
              simp at hck
              have hw' : w'.heap[j.blk]? = some (.mapIter (some jm.blk) since seen.toArray last) := by rw [hheap]; exact hw
              have hso := run_setObj (P := P) (ob' := .mapIter (some jm.blk) since (seen.toArray.push m'.born) clock) hw' (fun _ _ _ h => by cases h)
              have S2 := S'.objSet hj hbase hw' (fun _ _ _ h => by cases h) hM hb rfl (ob' := .mapIter (some jm.blk) since (seen.toArray.push m'.born) clock) (o' := .mapIter (some m) since (seen ++ [(old ++ new)[k].2.2]) clock)
                ⟨⟨some jm.blk, by rw [objSet_get hw', hmb]; simp, jm, hjm, rfl⟩, hM, hoff⟩
              refine ⟨(.tuple [.bool true, (old ++ new)[k].1, (old ++ new)[k].2.1], some (b, .mapIter (some m) since (seen ++ [(old ++ new)[k].2.2]) clock)), ?_, _, .tuple #[.bool true, m'.key, m'.val], hrun _ rfl _ _ (by rw [hck]; simp only [Sem.run_bind, hso, Result.andThen_ok, Sem.run_pure]), tup_entry hmk hmv, S2⟩
              show _ ∈ (if old.isEmpty then _ else _)
              rw [if_pos hoe]
              refine List.mem_cons_of_mem _ (List.mem_map.2 ⟨(old ++ new)[k], List.getElem_mem hlt2, rfl⟩)
          · rw [hcands, if_neg hoe] at hck
            simp only [List.nil_append, List.getElem?_map] at hck
            have hlt : k < ((cL.filter fun m => Nat.blt m.born since) ++ (cL.filter fun m => !Nat.blt m.born since)).length := by
              rw [← Array.length_toList, hcands, if_neg hoe] at hk
              simpa using hk
            have hlt2 : k < (old ++ new).length := by rw [← hAll.length]; exact hlt
            obtain ⟨m', hm', hmk, hmv, hmb⟩ := hAll.get (List.getElem?_eq_getElem hlt2)
            rw [hm'] at hck
            simp at hck
            have hw' : w'.heap[j.blk]? = some (.mapIter (some jm.blk) since seen.toArray last) := by rw [hheap]; exact hw
            have hso := run_setObj (P := P) (ob' := .mapIter (some jm.blk) since (seen.toArray.push m'.born) clock) hw' (fun _ _ _ h => by cases h)
            have S2 := S'.objSet hj hbase hw' (fun _ _ _ h => by cases h) hM hb rfl (ob' := .mapIter (some jm.blk) since (seen.toArray.push m'.born) clock) (o' := .mapIter (some m) since (seen ++ [(old ++ new)[k].2.2]) clock)
              ⟨⟨some jm.blk, by rw [objSet_get hw', hmb]; simp, jm, hjm, rfl⟩, hM, hoff⟩
            refine ⟨(.tuple [.bool true, (old ++ new)[k].1, (old ++ new)[k].2.1], some (b, .mapIter (some m) since (seen ++ [(old ++ new)[k].2.2]) clock)), ?_, _, .tuple #[.bool true, m'.key, m'.val], hrun _ rfl _ _ (by rw [hck]; simp only [Sem.run_bind, hso, Result.andThen_ok, Sem.run_pure]), tup_entry hmk hmv, S2⟩
            show _ ∈ (if old.isEmpty then _ else _)
            rw [if_neg hoe]
            exact List.mem_map.2 ⟨(old ++ new)[k], List.getElem_mem hlt2, rfl⟩
      · cases hev
    · -- a map that is never written any more
      rename_i ks vs seen hb
      split at hev
      · rename_i hkv
        obtain ⟨j', hj', hbase, ⟨r, ces, clock, last, hw, hseen, hlast, hMo, hks, hvs, hborn, hnd⟩, hM, hoff⟩ := S.obj _ _ hb
        rw [hj] at hj'; cases hj'
        subst hlast
        obtain ⟨_, hl1, hl2⟩ := RelEnt_of hks hvs
        have hgo := run_getObj (P := P) hw (fun _ _ _ h => by cases h)
        have hgm := run_getObj (P := P) (S.memo _ _ hMo) (fun _ _ _ h => by cases h)
        rw [hoff] at he
        let st : List Nat := seen.map fun k => ((ces.toList[k]?).map (·.born)).getD 0
        have hg1 : (!st.toArray.isEmpty && !ces.isEmpty && ces.all (fun m => decide (m.born ≥ last))) = false := by
          by_cases hce : ces.isEmpty
          · simp [hce]
          · have : ces.all (fun m => decide (m.born ≥ last)) = false := by
              rw [← Array.all_toList]
              have hne : ces.toList ≠ [] := fun h => hce (by rw [Array.isEmpty_iff_size_eq_zero, ← Array.length_toList, h]; rfl)
              obtain ⟨m, hm⟩ := List.exists_mem_of_ne_nil _ hne
              rw [List.all_eq_false]
              exact ⟨m, hm, by have := hborn m hm; simp; omega⟩
            rw [this]; simp
        let left := (List.range ks.length).filter fun i => !seen.contains i
        -- what is left, in the model's words
        let f : Nat → MapEntry := fun i => ces.toList.getD i default
        have hcl : (ces.filter fun e => !st.toArray.contains e.born).toList = left.map f := by
          rw [Array.toList_filter, filter_range]
          rw [show ces.toList.length = ks.length from hl1.symm]
          simp only [left, f]
          congr 1
          apply List.filter_congr
          intro i hi
          have hi := List.mem_range.1 hi
          have hi2 : i < ces.toList.length := by rw [← hl1]; exact hi
          have hgi : ces.toList.getD i default = ces.toList[i] := by rw [List.getD, List.getElem?_eq_getElem hi2]; rfl
          rw [hgi]
          congr 1
          rw [Bool.eq_iff_iff]
          simp only [List.contains_toArray, List.contains_iff_mem, st, List.mem_map]
          constructor
          · rintro ⟨k, hk, hke⟩
            have hk2 : k < ces.toList.length := by rw [← hl1]; exact hseen k hk
            rw [List.getElem?_eq_getElem hk2] at hke
            simp only [Option.map_some, Option.getD_some] at hke
            have hki : k = i := (List.getElem_inj (h₀ := by simpa using hk2) (h₁ := by simpa using hi2) hnd).1 (by simpa using hke)
            rw [← hki]; exact hk
          · intro hk
            exact ⟨i, hk, by rw [List.getElem?_eq_getElem hi2]; rfl⟩
        have hold : ((ces.filter fun e => !st.toArray.contains e.born).filter (fun e => decide (e.born < last))).toList = left.map f := by
          rw [Array.toList_filter, hcl]
          apply List.filter_eq_self.2
          intro m hm
          rw [← hcl] at hm
          have : m ∈ ces.toList := by
            rw [Array.toList_filter] at hm
            exact (List.mem_filter.1 hm).1
          simpa using hborn m this
        have hnew : ((ces.filter fun e => !st.toArray.contains e.born).filter (fun e => decide (e.born ≥ last))).toList = [] := by
          rw [Array.toList_filter, hcl]
          apply List.filter_eq_nil_iff.2
          intro m hm
          rw [← hcl] at hm
          have : m ∈ ces.toList := by
            rw [Array.toList_filter] at hm
            exact (List.mem_filter.1 hm).1
          have := hborn m this
          simp; omega
        have holdE : ((ces.filter fun e => !st.toArray.contains e.born).filter (fun e => decide (e.born < last))).isEmpty = left.isEmpty := by
          rw [Bool.eq_iff_iff, Array.isEmpty_iff_size_eq_zero, List.isEmpty_iff_length_eq_zero, ← Array.length_toList, hold, List.length_map]
        let cands : Array (Option MapEntry) := (if ((ces.filter fun e => !st.toArray.contains e.born).filter (fun e => decide (e.born < last))).isEmpty then #[none] else #[]) ++
          (((ces.filter fun e => !st.toArray.contains e.born).filter (fun e => decide (e.born < last))) ++ ((ces.filter fun e => !st.toArray.contains e.born).filter (fun e => decide (e.born ≥ last)))).map some
        have hcands : cands.toList = (if left.isEmpty then [none] else []) ++ (left.map f).map some := by
          simp only [cands, Array.toList_append, Array.toList_map, hold, hnew, holdE, List.append_nil]
          split <;> rfl
        have hpos : 0 < cands.size := by
          rw [← Array.length_toList, hcands]
          by_cases h : left.isEmpty
          · simp [h]
          · have : left.length ≠ 0 := fun h0 => h (List.isEmpty_iff_length_eq_zero.2 h0)
            simp [h]; omega
        obtain ⟨k, w', hk, hch, hww, S', hheap⟩ := run_mapNext (P := P) S hpos
        have hrun : ∀ (K : Sem Value), (match cands[k]? with
            | some (some e) => do
              setObj j.blk (.mapIter (some r) last (st.toArray.push e.born) last)
              pure (.tuple #[.bool true, e.key, e.val])
            | some none => pure (.tuple #[.bool false])
            | none => stuck "Next: no such candidate" : Sem Value) = K → ∀ cv w2, K.run P w' = .ok cv w2 → (execOp a.eval o).run P w = .ok (.value cv) w2 := by
          intro K hK cv w2 hKr
          have hnx : (Instr.next (a.eval x) false o.type).run P w = .ok cv w2 := by
            simp only [he, Nat.zero_add, Instr.next, Sem.run_bind, hgo, Result.andThen_ok, hgm]
            have hg1' := hg1
            simp only [st] at hg1'
            simp only [hg1', Bool.false_eq_true, if_false]
            have hch' : (choose (.mapNext cands.size)).run P w = .ok k w' := hch
            simp only [cands, st] at hch' hK
            simp only [Sem.run_bind, hch', Result.andThen_ok]
            rw [← hKr, ← hK]
            rfl
          simp only [execOp, ho, Sem.run_bind, hnx, Result.andThen_ok, Sem.run_pure]
        have hck : cands[k]? = cands.toList[k]? := by simp
        by_cases hle : left.isEmpty
        · rw [if_pos hle] at hev
          cases hev
          rw [hcands, if_pos hle] at hck
          have hl0 : left = [] := List.isEmpty_iff.1 hle
          rw [hl0] at hck
          have hk0 : k = 0 := by
            rw [← Array.length_toList, hcands, if_pos hle, hl0] at hk
            simpa using hk
          subst hk0
          simp at hck
          exact ⟨_, List.mem_singleton.2 rfl, w', .tuple #[.bool false], hrun _ rfl _ _ (by rw [hck]; rfl), tup_false, S'⟩
        · rw [if_neg hle] at hev
          cases hev
          rw [hcands, if_neg hle] at hck
          simp only [List.nil_append, List.getElem?_map] at hck
          have hlt : k < left.length := by
            rw [← Array.length_toList, hcands, if_neg hle] at hk
            simpa using hk
          rw [List.getElem?_eq_getElem hlt] at hck
          simp only [Option.map_some] at hck
          have hmem := List.getElem_mem hlt
          have hin : left[k] < ks.length := List.mem_range.1 (List.mem_filter.1 hmem).1
          have hin2 : left[k] < ces.toList.length := by rw [← hl1]; exact hin
          have hin3 : left[k] < vs.length := by omega
          have hf : f left[k] = ces.toList[left[k]] := by simp only [f]; rw [List.getD, List.getElem?_eq_getElem hin2]; rfl
          obtain ⟨m1, hm1, hi1, hr1⟩ := hks.get (List.getElem?_eq_getElem hin)
          obtain ⟨m2, hm2, hi2, hr2⟩ := hvs.get (List.getElem?_eq_getElem hin3)
          rw [List.getElem?_eq_getElem hin2] at hm1 hm2
          cases hm1; cases hm2
          rw [hf] at hck
          have hw' : w'.heap[j.blk]? = some (.mapIter (some r) last st.toArray last) := by rw [hheap]; exact hw
          have hso := run_setObj (P := P) (ob' := .mapIter (some r) last (st.toArray.push (ces.toList[left[k]]).born) last) hw' (fun _ _ _ h => by cases h)
          have S2 := S'.objSet hj hbase hw' (fun _ _ _ h => by cases h) hM hb rfl (ob' := .mapIter (some r) last (st.toArray.push (ces.toList[left[k]]).born) last) (o' := .rmapIter ks vs (seen ++ [left[k]]))
            ⟨⟨r, ces, last, last, by
              rw [objSet_get hw']
              simp only [st, List.map_append, List.map_cons, List.map_nil, List.getElem?_eq_getElem hin2, Option.map_some, Option.getD_some]
              simp, fun q hq => by
              rcases List.mem_append.1 hq with h | h
              · exact hseen q h
              · rw [List.mem_singleton.1 h]; exact hin, rfl, hMo, hks, hvs, hborn, hnd⟩, hM, hoff⟩
          refine ⟨(.tuple [.bool true, ks.getD left[k] V.undef, vs.getD left[k] V.undef], some (b, .rmapIter ks vs (seen ++ [left[k]]))), List.mem_map.2 ⟨left[k], hmem, rfl⟩, _, .tuple #[.bool true, (ces.toList[left[k]]).key, (ces.toList[left[k]]).val], hrun _ rfl _ _ (by rw [hck]; simp only [Sem.run_bind, hso, Result.andThen_ok, Sem.run_pure]), ?_, S2⟩
          have e1 : ks.getD left[k] V.undef = ks[left[k]] := by simp [List.getD, hin]
          have e2 : vs.getD left[k] V.undef = vs[left[k]] := by simp [List.getD, hin3]
          rw [e1, e2]
          exact tup_entry hr1 hr2
      · cases hev
    · cases hev
  · cases hev

theorem f_entry (G : Globs gl M) (E : EnvRel M β N e a) (S : Sim M β hp.get w0 w) (hg : ∀ b o, g b = some o → hp.get b = some o) {x : Operand} (ho : o.op = .entry x) {x' : X} (hx : cX gl x = some x') (hev : evI g id e (.entry x') = some eff) :
    Follows P M β w0 w (execOp a.eval o) hp id eff := by
  have hr := cX_rel G E hx
  have tup2 : ∀ {k v : V} {c d : Value}, Rel M β k c → Rel M β v d → Rel M β (.tuple [k, v]) (.tuple #[c, d]) := fun h h' => by
    simp only [Rel, RelL]; exact ⟨_, rfl, _, _, rfl, h, _, _, rfl, h', rfl⟩
  simp only [evI] at hev
  split at hev
  · rename_i b hv
    rw [hv] at hr; simp only [Rel] at hr
    obtain ⟨j, hj, he⟩ := hr
    split at hev
    · rename_i m since seen stepped hb
      split at hev
      · rename_i es clock fzn hm
        split at hev
        · rename_i stamp hs
          split at hev
          · rename_i hcl
            subst hcl
            simp only [Option.map_eq_some_iff] at hev
            obtain ⟨q, hq, rfl⟩ := hev
            obtain ⟨j', hj', hbase, ⟨r, hw, jm, hjm, hr⟩, hM, hoff⟩ := S.obj _ _ (hg _ _ hb)
            rw [hj] at hj'; cases hj'
            subst hr
            obtain ⟨jm', hjm', _, ces, hwm, hent, _⟩ := S.obj _ _ (hg _ _ hm)
            rw [hjm] at hjm'; cases hjm'
            have hgo := run_getObj (P := P) hw (fun _ _ _ h => by cases h)
            have hgm := run_getObj (P := P) hwm (fun _ _ _ h => by cases h)
            rw [hoff] at he
            obtain ⟨m', hm', h1, h2⟩ := hent.find (fun b => Nat.beq b stamp) hq
            have hback : seen.toArray.back? = some stamp := by simpa using hs
            have hfind : ces.find? (fun e => e.born == stamp) = some m' := by
              have hfn : (fun e : MapEntry => e.born == stamp) = (fun m : MapEntry => Nat.beq m.born stamp) := by
                funext m; rw [Bool.eq_iff_iff]; simp
              rw [← Array.find?_toList, hfn]; exact hm'
            refine Follows.same S (c := .tuple #[m'.key, m'.val]) ?_ (tup2 h1 h2)
            simp [execOp, ho, he, Instr.entry, hgo, hback, hgm, hfind]
          · cases hev
        · cases hev
      · cases hev
    · rename_i ks vs seen hb
      split at hev
      · rename_i ix hs
        split at hev
        · rename_i k v hk hv'
          cases hev
          obtain ⟨j', hj', hbase, ⟨r, ces, clock, last, hw, hseen, hlast, hMo, hks, hvs, hborn, hnd⟩, hM, hoff⟩ := S.obj _ _ (hg _ _ hb)
          rw [hj] at hj'; cases hj'
          subst hlast
          have hgo := run_getObj (P := P) hw (fun _ _ _ h => by cases h)
          have hgm := run_getObj (P := P) (S.memo _ _ hMo) (fun _ _ _ h => by cases h)
          rw [hoff] at he
          obtain ⟨m1, hm1, _, hr1⟩ := hks.get hk
          obtain ⟨m2, hm2, _, hr2⟩ := hvs.get hv'
          rw [hm1] at hm2; cases hm2
          have hback : (seen.map fun k => ((ces.toList[k]?).map (·.born)).getD 0).toArray.back? = some m1.born := by
            simp [hs]
            have : ces[ix]? = some m1 := by simpa using hm1
            simp [this]
          have hlt : ix < ces.toList.length := by
            rcases Nat.lt_or_ge ix ces.toList.length with h | h
            · exact h
            · rw [List.getElem?_eq_none h] at hm1; cases hm1
          have hm1' : ces.toList[ix] = m1 := by rw [List.getElem?_eq_getElem hlt] at hm1; exact Option.some.inj hm1
          have hfind : ces.find? (fun e => e.born == m1.born) = some m1 := by
            rw [← Array.find?_toList]
            cases hf : ces.toList.find? (fun e => e.born == m1.born) with
            | none =>
              rw [List.find?_eq_none] at hf
              have := hf m1 (List.mem_of_getElem? hm1)
              simp at this
            | some q =>
              have h1 := List.find?_some hf
              have h2 := List.mem_of_find?_eq_some hf
              obtain ⟨p, hp⟩ := List.mem_iff_getElem?.1 h2
              have hpl : p < ces.toList.length := by
                rcases Nat.lt_or_ge p ces.toList.length with h | h
                · exact h
                · rw [List.getElem?_eq_none h] at hp; cases hp
              have hp' : ces.toList[p] = q := by rw [List.getElem?_eq_getElem hpl] at hp; exact Option.some.inj hp
              have hpx : p = ix := (List.getElem_inj (h₀ := by simpa using hpl) (h₁ := by simpa using hlt) hnd).1 (by
                simp only [List.getElem_map, hp', hm1']; simpa using h1)
              subst hpx
              rw [← hp', hm1']
          refine Follows.same S (c := .tuple #[m1.key, m1.val]) ?_ (tup2 hr1 hr2)
          simp only [execOp, ho, he, Nat.zero_add, Instr.entry, Sem.run_bind, hgo, Result.andThen_ok, hback, hgm, bne_self_eq_false, Bool.false_eq_true, if_false, hfind, Sem.run_pure]
        · cases hev
      · cases hev
    · cases hev
  · cases hev

end
end Go.Abs
