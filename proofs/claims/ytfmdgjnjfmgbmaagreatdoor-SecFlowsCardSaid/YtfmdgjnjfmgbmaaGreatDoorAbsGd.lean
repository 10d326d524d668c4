/-
  Abs20, Abs21, Abs22, put together in one file.
-/
import Derived.Test.YtfmdgjnjfmgbmaaGreatDoorAbsGc
import Derived.CallsIn
import Derived.RangeFuncRecord
import Derived.RecoverIn
/-
  ABS, part 20: steps over maps.
-/
namespace Go.Abs
open Go Go.RowKit
set_option linter.unusedSectionVars false
variable [Syms]

section
variable {P : Program} {M : Mem} {β : Places} {w0 w : World} {hp : Heap} {id N : Nat} {e : Env} {a : Act} {gl : Nat → Option (List V)} {g : View} {o : Oper} {i : I} {eff : Eff}

theorem RelEnt.filter (p : Nat → Bool) : ∀ {es : List (V × V × Nat)} {ms : List MapEntry}, RelEnt M β es ms → RelEnt M β (es.filter fun e => p e.2.2) (ms.filter fun m => p m.born)
  | [], _, h => by simp only [RelEnt] at h; subst h; rfl
  | x :: es, _, h => by
    simp only [RelEnt] at h
    obtain ⟨m, ms, rfl, h1, h2, h3, ht⟩ := h
    simp only [List.filter_cons, h3]
    split
    · exact ⟨m, _, rfl, h1, h2, h3, ht.filter p⟩
    · exact ht.filter p

theorem RelEnt.append : ∀ {es es' : List (V × V × Nat)} {ms ms' : List MapEntry}, RelEnt M β es ms → RelEnt M β es' ms' → RelEnt M β (es ++ es') (ms ++ ms')
  | [], _, _, _, h, h' => by simp only [RelEnt] at h; subst h; exact h'
  | x :: es, _, _, _, h, h' => by
    simp only [RelEnt] at h
    obtain ⟨m, ms, rfl, h1, h2, h3, ht⟩ := h
    exact ⟨m, _, rfl, h1, h2, h3, ht.append h'⟩

theorem RelEnt.all (p : Nat → Bool) : ∀ {es : List (V × V × Nat)} {ms : List MapEntry}, RelEnt M β es ms → (ms.all fun m => p m.born) = es.all fun e => p e.2.2
  | [], _, h => by simp only [RelEnt] at h; subst h; rfl
  | x :: es, _, h => by
    simp only [RelEnt] at h
    obtain ⟨m, ms, rfl, h1, h2, h3, ht⟩ := h
    simp only [List.all_cons, h3, ht.all p]

theorem RelEnt.find (p : Nat → Bool) : ∀ {es : List (V × V × Nat)} {ms : List MapEntry}, RelEnt M β es ms → ∀ {x}, es.find? (fun e => p e.2.2) = some x → ∃ m, ms.find? (fun m => p m.born) = some m ∧ Rel M β x.1 m.key ∧ Rel M β x.2.1 m.val
  | [], _, _, x, hx => by simp at hx
  | y :: es, _, h, x, hx => by
    simp only [RelEnt] at h
    obtain ⟨m, ms, rfl, h1, h2, h3, ht⟩ := h
    cases hp : p y.2.2 with
    | true =>
      simp only [List.find?_cons, h3, hp] at hx ⊢
      cases hx
      exact ⟨m, rfl, h1, h2⟩
    | false =>
      simp only [List.find?_cons, h3, hp] at hx ⊢
      exact ht.find p hx

/-- What a draw among candidates comes to. -/
theorem run_mapNext (S : Sim M β hp.get w0 w) {n : Nat} (hn : 0 < n) : ∃ k w', k < n ∧ (choose (.mapNext n)).run P w = .ok k w' ∧ (w' = w ∨ w' = w.drew) ∧ Sim M β hp.get w0 w' ∧ w'.heap = w.heap := by
  by_cases h : n ≤ 1
  · exact ⟨0, w, hn, by simp [Question.forced, h], .inl rfl, S, rfl⟩
  · refine ⟨w.tape w.drawn (.mapNext n) % n, w.drew, Nat.mod_lt _ hn, by simp [Question.forced, Question.cut, h], .inr rfl, S.drew, rfl⟩

def stepHeap (hp : Heap) (c : V × Option (Nat × AObj)) : Heap := match c.2 with | some (b, obj) => hp.set b obj | none => hp

theorem tup_false : Rel M β (.tuple [.bool false]) (.tuple #[.bool false]) := by simp only [Rel, RelL]; exact ⟨_, rfl, _, _, rfl, rfl, rfl⟩

theorem tup_entry {k v : V} {c d : Value} (h : Rel M β k c) (h' : Rel M β v d) : Rel M β (.tuple [.bool true, k, v]) (.tuple #[.bool true, c, d]) := by
  simp only [Rel, RelL]; exact ⟨_, rfl, _, _, rfl, rfl, _, _, rfl, h, _, _, rfl, h', rfl⟩

theorem filter_range {α : Type} [Inhabited α] (l : List α) (p : α → Bool) : l.filter p = ((List.range l.length).filter fun i => p (l.getD i default)).map fun i => l.getD i default := by
  have hl : l = (List.range l.length).map fun i => l.getD i default := by
    apply List.ext_getElem?
    intro k
    simp only [List.getElem?_map]
    by_cases hk : k < l.length
    · simp [hk]
    · simp [hk]
  conv => lhs; rw [hl, List.filter_map]
  rfl

theorem RelKs.get : ∀ {ks : List V} {ms : List MapEntry}, RelKs M β ks ms → ∀ {k : Nat} {v : V}, ks[k]? = some v → ∃ m, ms[k]? = some m ∧ v.imm = true ∧ Rel M β v m.key
  | [], _, _, k, v, hk => by simp at hk
  | x :: ks, _, h, k, v, hk => by
    simp only [RelKs] at h
    obtain ⟨m, ms, rfl, h1, h2, ht⟩ := h
    cases k with
    | zero => simp at hk; subst hk; exact ⟨m, rfl, h1, h2⟩
    | succ k => simpa using ht.get (by simpa using hk)

theorem RelVs.get : ∀ {ks : List V} {ms : List MapEntry}, RelVs M β ks ms → ∀ {k : Nat} {v : V}, ks[k]? = some v → ∃ m, ms[k]? = some m ∧ v.imm = true ∧ Rel M β v m.val
  | [], _, _, k, v, hk => by simp at hk
  | x :: ks, _, h, k, v, hk => by
    simp only [RelVs] at h
    obtain ⟨m, ms, rfl, h1, h2, ht⟩ := h
    cases k with
    | zero => simp at hk; subst hk; exact ⟨m, rfl, h1, h2⟩
    | succ k => simpa using ht.get (by simpa using hk)

theorem f_nextM (G : Globs gl M) (E : EnvRel M β N e a) (S : Sim M β hp.get w0 w) {x : Operand} (ho : o.op = .next x false) {x' : X} (hx : cX gl x = some x') {cs : List (V × Option (Nat × AObj))} (hev : nextM hp (x'.val e) = some cs) :
    ∃ c ∈ cs, ∃ w' cv, (execOp a.eval o).run P w = .ok (.value cv) w' ∧ Rel M β c.1 cv ∧ Sim M β (stepHeap hp c).get w0 w' := by
  have hr := cX_rel G E hx
  unfold nextM at hev
  split at hev
  · rename_i b hv
    rw [hv] at hr; simp only [Rel] at hr
    obtain ⟨j, hj, he⟩ := hr
    split at hev
    · -- over nothing
      rename_i s1 s2 s3 hb
      cases hev
      obtain ⟨j', hj', hbase, ⟨r, hw, hr⟩, hM, hoff⟩ := S.obj _ _ hb
      rw [hj] at hj'; cases hj'
      simp only at hr
      subst hr
      have hgo := run_getObj (P := P) hw (fun _ _ _ h => by cases h)
      rw [hoff] at he
      refine ⟨_, List.mem_singleton.2 rfl, w, .tuple #[.bool false], ?_, tup_false, S⟩
      simp [execOp, ho, he, Instr.next, hgo]
    · rename_i m since seen last hb
      split at hev
      · rename_i es clock fzn hm
        split at hev
        · cases hev
        · rename_i hguard
          cases hev
          obtain ⟨j', hj', hbase, ⟨r, hw, jm, hjm, hr⟩, hM, hoff⟩ := S.obj _ _ hb
          rw [hj] at hj'; cases hj'
          subst hr
          obtain ⟨jm', hjm', _, ces, hwm, hent, hborn, hnd, _⟩ := S.obj _ _ hm
          rw [hjm] at hjm'; cases hjm'
          have hgo := run_getObj (P := P) hw (fun _ _ _ h => by cases h)
          have hgm := run_getObj (P := P) hwm (fun _ _ _ h => by cases h)
          rw [hoff] at he
          have hg1 : (!seen.toArray.isEmpty && !ces.isEmpty && ces.all (fun m => decide (m.born ≥ last))) = false := by
            have h1 := hent.all (fun b => Nat.ble last b)
            have h2 := hent.length
            have h3 : ces.all (fun m => decide (m.born ≥ last)) = es.all fun e => Nat.ble last e.2.2 := by
              rw [← h1, ← Array.all_toList]
              congr 1
              funext m
              rw [Bool.eq_iff_iff]; simp [Nat.ble_eq]
            have h4 : ces.isEmpty = es.isEmpty := by
              rw [Bool.eq_iff_iff]
              simp only [Array.isEmpty_iff_size_eq_zero, List.isEmpty_iff_length_eq_zero, ← h2, Array.length_toList]
            have h5 : seen.toArray.isEmpty = seen.isEmpty := by simp
            rw [h3, h4, h5]
            simpa using hguard
          -- the candidates
          let p1 : Nat → Bool := fun b => !seen.contains b
          let L := (es.filter fun e => p1 e.2.2)
          let old := L.filter fun e => Nat.blt e.2.2 since
          let new := L.filter fun e => !Nat.blt e.2.2 since
          let cL := ces.toList.filter fun m => p1 m.born
          have hLr : RelEnt M β L cL := hent.filter p1
          have hOr : RelEnt M β old (cL.filter fun m => Nat.blt m.born since) := hLr.filter (fun b => Nat.blt b since)
          have hNr : RelEnt M β new (cL.filter fun m => !Nat.blt m.born since) := hLr.filter (fun b => !Nat.blt b since)
          have hAll := hOr.append hNr
          have hleft : (ces.filter fun e => !seen.toArray.contains e.born).toList = cL := by simp [cL, p1]
          have hold : ((ces.filter fun e => !seen.toArray.contains e.born).filter (fun e => decide (e.born < since))).toList = cL.filter fun m => Nat.blt m.born since := by
            rw [Array.toList_filter, hleft]
            congr 1
            funext m
            rw [Bool.eq_iff_iff]; simp
          have hnew : ((ces.filter fun e => !seen.toArray.contains e.born).filter (fun e => decide (e.born ≥ since))).toList = cL.filter fun m => !Nat.blt m.born since := by
            rw [Array.toList_filter, hleft]
            congr 1
            funext m
            have hb : Nat.blt m.born since = decide (m.born < since) := by rw [Bool.eq_iff_iff]; simp
            rw [hb]
            by_cases h : m.born < since
            · simp [h]
            · simp [h]; omega
          have holdE : ((ces.filter fun e => !seen.toArray.contains e.born).filter (fun e => decide (e.born < since))).isEmpty = old.isEmpty := by
            rw [Bool.eq_iff_iff]
            simp only [Array.isEmpty_iff_size_eq_zero, List.isEmpty_iff_length_eq_zero, ← hOr.length, ← hold, Array.length_toList]
          let cands : Array (Option MapEntry) := (if ((ces.filter fun e => !seen.toArray.contains e.born).filter (fun e => decide (e.born < since))).isEmpty then #[none] else #[]) ++
            (((ces.filter fun e => !seen.toArray.contains e.born).filter (fun e => decide (e.born < since))) ++ ((ces.filter fun e => !seen.toArray.contains e.born).filter (fun e => decide (e.born ≥ since)))).map some
          have hcands : cands.toList = (if old.isEmpty then [none] else []) ++ ((cL.filter fun m => Nat.blt m.born since) ++ (cL.filter fun m => !Nat.blt m.born since)).map some := by
            simp only [cands, Array.toList_append, Array.toList_map, hold, hnew, holdE]
            split <;> rfl
          have hpos : 0 < cands.size := by
            rw [← Array.length_toList, hcands]
            by_cases h : old.isEmpty
            · simp [h]
            · have : (cL.filter fun m => Nat.blt m.born since).length ≠ 0 := by
                rw [hOr.length]
                intro h0
                exact h (List.isEmpty_iff_length_eq_zero.2 h0)
              simp [h]; omega
          obtain ⟨k, w', hk, hch, hww, S', hheap⟩ := run_mapNext (P := P) S hpos
          have hrun : ∀ (K : Sem Value), (match cands[k]? with
              | some (some e) => do
                setObj j.blk (.mapIter (some jm.blk) since (seen.toArray.push e.born) clock)
                pure (.tuple #[.bool true, e.key, e.val])
              | some none => pure (.tuple #[.bool false])
              | none => stuck "Next: no such candidate" : Sem Value) = K → ∀ cv w2, K.run P w' = .ok cv w2 → (execOp a.eval o).run P w = .ok (.value cv) w2 := by
            intro K hK cv w2 hKr
            have hnx : (Instr.next (a.eval x) false o.type).run P w = .ok cv w2 := by
              simp only [he, Nat.zero_add, Instr.next, Sem.run_bind, hgo, Result.andThen_ok, hgm, hg1, Bool.false_eq_true, if_false]
              have hch' : (choose (.mapNext cands.size)).run P w = .ok k w' := hch
              simp only [cands] at hch' hK
              simp only [hch', Result.andThen_ok]
              rw [← hKr, ← hK]
              rfl
            simp only [execOp, ho, Sem.run_bind, hnx, Result.andThen_ok, Sem.run_pure]
          have hck : cands[k]? = cands.toList[k]? := by simp
          by_cases hoe : old.isEmpty
          · rw [hcands, if_pos hoe] at hck
            cases k with
            | zero =>
              simp at hck
              refine ⟨(.tuple [.bool false], none), ?_, w', .tuple #[.bool false], hrun _ rfl _ _ (by rw [hck]; rfl), tup_false, S'⟩
              show _ ∈ (if old.isEmpty then _ else _)
              rw [if_pos hoe]
              exact List.mem_cons_self
            | succ k =>
              simp only [List.singleton_append, List.getElem?_cons_succ, List.getElem?_map] at hck
              have hlt : k < ((cL.filter fun m => Nat.blt m.born since) ++ (cL.filter fun m => !Nat.blt m.born since)).length := by
                rw [← Array.length_toList, hcands, if_pos hoe] at hk
                simpa using hk
              have hlt2 : k < (old ++ new).length := by rw [← hAll.length]; exact hlt
              obtain ⟨m', hm', hmk, hmv, hmb⟩ := hAll.get (List.getElem?_eq_getElem hlt2)
              rw [hm'] at hck
              simp at hck
              have hw' : w'.heap[j.blk]? = some (.mapIter (some jm.blk) since seen.toArray last) := by rw [hheap]; exact hw
              have hso := run_setObj (P := P) (ob' := .mapIter (some jm.blk) since (seen.toArray.push m'.born) clock) hw' (fun _ _ _ h => by cases h)
              have S2 := S'.objSet hj hbase hw' (fun _ _ _ h => by cases h) hM hb rfl (ob' := .mapIter (some jm.blk) since (seen.toArray.push m'.born) clock) (o' := .mapIter (some m) since (seen ++ [(old ++ new)[k].2.2]) clock)
                ⟨⟨some jm.blk, by rw [objSet_get hw', hmb]; simp, jm, hjm, rfl⟩, hM, hoff⟩
              refine ⟨(.tuple [.bool true, (old ++ new)[k].1, (old ++ new)[k].2.1], some (b, .mapIter (some m) since (seen ++ [(old ++ new)[k].2.2]) clock)), ?_, _, .tuple #[.bool true, m'.key, m'.val], hrun _ rfl _ _ (by rw [hck]; simp only [Sem.run_bind, hso, Result.andThen_ok, Sem.run_pure]), tup_entry hmk hmv, S2⟩
              show _ ∈ (if old.isEmpty then _ else _)
              rw [if_pos hoe]
              refine List.mem_cons_of_mem _ (List.mem_map.2 ⟨(old ++ new)[k], List.getElem_mem hlt2, rfl⟩)
          · rw [hcands, if_neg hoe] at hck
            simp only [List.nil_append, List.getElem?_map] at hck
            have hlt : k < ((cL.filter fun m => Nat.blt m.born since) ++ (cL.filter fun m => !Nat.blt m.born since)).length := by
              rw [← Array.length_toList, hcands, if_neg hoe] at hk
              simpa using hk
            have hlt2 : k < (old ++ new).length := by rw [← hAll.length]; exact hlt
            obtain ⟨m', hm', hmk, hmv, hmb⟩ := hAll.get (List.getElem?_eq_getElem hlt2)
            rw [hm'] at hck
            simp at hck
            have hw' : w'.heap[j.blk]? = some (.mapIter (some jm.blk) since seen.toArray last) := by rw [hheap]; exact hw
            have hso := run_setObj (P := P) (ob' := .mapIter (some jm.blk) since (seen.toArray.push m'.born) clock) hw' (fun _ _ _ h => by cases h)
            have S2 := S'.objSet hj hbase hw' (fun _ _ _ h => by cases h) hM hb rfl (ob' := .mapIter (some jm.blk) since (seen.toArray.push m'.born) clock) (o' := .mapIter (some m) since (seen ++ [(old ++ new)[k].2.2]) clock)
              ⟨⟨some jm.blk, by rw [objSet_get hw', hmb]; simp, jm, hjm, rfl⟩, hM, hoff⟩
            refine ⟨(.tuple [.bool true, (old ++ new)[k].1, (old ++ new)[k].2.1], some (b, .mapIter (some m) since (seen ++ [(old ++ new)[k].2.2]) clock)), ?_, _, .tuple #[.bool true, m'.key, m'.val], hrun _ rfl _ _ (by rw [hck]; simp only [Sem.run_bind, hso, Result.andThen_ok, Sem.run_pure]), tup_entry hmk hmv, S2⟩
            show _ ∈ (if old.isEmpty then _ else _)
            rw [if_neg hoe]
            exact List.mem_map.2 ⟨(old ++ new)[k], List.getElem_mem hlt2, rfl⟩
      · cases hev
    · -- a map that is never written any more
      rename_i ks vs seen hb
      split at hev
      · rename_i hkv
        obtain ⟨j', hj', hbase, ⟨r, ces, clock, last, hw, hseen, hlast, hMo, hks, hvs, hborn, hnd⟩, hM, hoff⟩ := S.obj _ _ hb
        rw [hj] at hj'; cases hj'
        subst hlast
        obtain ⟨_, hl1, hl2⟩ := RelEnt_of hks hvs
        have hgo := run_getObj (P := P) hw (fun _ _ _ h => by cases h)
        have hgm := run_getObj (P := P) (S.memo _ _ hMo) (fun _ _ _ h => by cases h)
        rw [hoff] at he
        let st : List Nat := seen.map fun k => ((ces.toList[k]?).map (·.born)).getD 0
        have hg1 : (!st.toArray.isEmpty && !ces.isEmpty && ces.all (fun m => decide (m.born ≥ last))) = false := by
          by_cases hce : ces.isEmpty
          · simp [hce]
          · have : ces.all (fun m => decide (m.born ≥ last)) = false := by
              rw [← Array.all_toList]
              have hne : ces.toList ≠ [] := fun h => hce (by rw [Array.isEmpty_iff_size_eq_zero, ← Array.length_toList, h]; rfl)
              obtain ⟨m, hm⟩ := List.exists_mem_of_ne_nil _ hne
              rw [List.all_eq_false]
              exact ⟨m, hm, by have := hborn m hm; simp; omega⟩
            rw [this]; simp
        let left := (List.range ks.length).filter fun i => !seen.contains i
        -- what is left, in the model's words
        let f : Nat → MapEntry := fun i => ces.toList.getD i default
        have hcl : (ces.filter fun e => !st.toArray.contains e.born).toList = left.map f := by
          rw [Array.toList_filter, filter_range]
          rw [show ces.toList.length = ks.length from hl1.symm]
          simp only [left, f]
          congr 1
          apply List.filter_congr
          intro i hi
          have hi := List.mem_range.1 hi
          have hi2 : i < ces.toList.length := by rw [← hl1]; exact hi
          have hgi : ces.toList.getD i default = ces.toList[i] := by rw [List.getD, List.getElem?_eq_getElem hi2]; rfl
          rw [hgi]
          congr 1
          rw [Bool.eq_iff_iff]
          simp only [List.contains_toArray, List.contains_iff_mem, st, List.mem_map]
          constructor
          · rintro ⟨k, hk, hke⟩
            have hk2 : k < ces.toList.length := by rw [← hl1]; exact hseen k hk
            rw [List.getElem?_eq_getElem hk2] at hke
            simp only [Option.map_some, Option.getD_some] at hke
            have hki : k = i := (List.getElem_inj (h₀ := by simpa using hk2) (h₁ := by simpa using hi2) hnd).1 (by simpa using hke)
            rw [← hki]; exact hk
          · intro hk
            exact ⟨i, hk, by rw [List.getElem?_eq_getElem hi2]; rfl⟩
        have hold : ((ces.filter fun e => !st.toArray.contains e.born).filter (fun e => decide (e.born < last))).toList = left.map f := by
          rw [Array.toList_filter, hcl]
          apply List.filter_eq_self.2
          intro m hm
          rw [← hcl] at hm
          have : m ∈ ces.toList := by
            rw [Array.toList_filter] at hm
            exact (List.mem_filter.1 hm).1
          simpa using hborn m this
        have hnew : ((ces.filter fun e => !st.toArray.contains e.born).filter (fun e => decide (e.born ≥ last))).toList = [] := by
          rw [Array.toList_filter, hcl]
          apply List.filter_eq_nil_iff.2
          intro m hm
          rw [← hcl] at hm
          have : m ∈ ces.toList := by
            rw [Array.toList_filter] at hm
            exact (List.mem_filter.1 hm).1
          have := hborn m this
          simp; omega
        have holdE : ((ces.filter fun e => !st.toArray.contains e.born).filter (fun e => decide (e.born < last))).isEmpty = left.isEmpty := by
          rw [Bool.eq_iff_iff, Array.isEmpty_iff_size_eq_zero, List.isEmpty_iff_length_eq_zero, ← Array.length_toList, hold, List.length_map]
        let cands : Array (Option MapEntry) := (if ((ces.filter fun e => !st.toArray.contains e.born).filter (fun e => decide (e.born < last))).isEmpty then #[none] else #[]) ++
          (((ces.filter fun e => !st.toArray.contains e.born).filter (fun e => decide (e.born < last))) ++ ((ces.filter fun e => !st.toArray.contains e.born).filter (fun e => decide (e.born ≥ last)))).map some
        have hcands : cands.toList = (if left.isEmpty then [none] else []) ++ (left.map f).map some := by
          simp only [cands, Array.toList_append, Array.toList_map, hold, hnew, holdE, List.append_nil]
          split <;> rfl
        have hpos : 0 < cands.size := by
          rw [← Array.length_toList, hcands]
          by_cases h : left.isEmpty
          · simp [h]
          · have : left.length ≠ 0 := fun h0 => h (List.isEmpty_iff_length_eq_zero.2 h0)
            simp [h]; omega
        obtain ⟨k, w', hk, hch, hww, S', hheap⟩ := run_mapNext (P := P) S hpos
        have hrun : ∀ (K : Sem Value), (match cands[k]? with
            | some (some e) => do
              setObj j.blk (.mapIter (some r) last (st.toArray.push e.born) last)
              pure (.tuple #[.bool true, e.key, e.val])
            | some none => pure (.tuple #[.bool false])
            | none => stuck "Next: no such candidate" : Sem Value) = K → ∀ cv w2, K.run P w' = .ok cv w2 → (execOp a.eval o).run P w = .ok (.value cv) w2 := by
          intro K hK cv w2 hKr
          have hnx : (Instr.next (a.eval x) false o.type).run P w = .ok cv w2 := by
            simp only [he, Nat.zero_add, Instr.next, Sem.run_bind, hgo, Result.andThen_ok, hgm]
            have hg1' := hg1
            simp only [st] at hg1'
            simp only [hg1', Bool.false_eq_true, if_false]
            have hch' : (choose (.mapNext cands.size)).run P w = .ok k w' := hch
            simp only [cands, st] at hch' hK
            simp only [Sem.run_bind, hch', Result.andThen_ok]
            rw [← hKr, ← hK]
            rfl
          simp only [execOp, ho, Sem.run_bind, hnx, Result.andThen_ok, Sem.run_pure]
        have hck : cands[k]? = cands.toList[k]? := by simp
        by_cases hle : left.isEmpty
        · rw [if_pos hle] at hev
          cases hev
          rw [hcands, if_pos hle] at hck
          have hl0 : left = [] := List.isEmpty_iff.1 hle
          rw [hl0] at hck
          have hk0 : k = 0 := by
            rw [← Array.length_toList, hcands, if_pos hle, hl0] at hk
            simpa using hk
          subst hk0
          simp at hck
          exact ⟨_, List.mem_singleton.2 rfl, w', .tuple #[.bool false], hrun _ rfl _ _ (by rw [hck]; rfl), tup_false, S'⟩
        · rw [if_neg hle] at hev
          cases hev
          rw [hcands, if_neg hle] at hck
          simp only [List.nil_append, List.getElem?_map] at hck
          have hlt : k < left.length := by
            rw [← Array.length_toList, hcands, if_neg hle] at hk
            simpa using hk
          rw [List.getElem?_eq_getElem hlt] at hck
          simp only [Option.map_some] at hck
          have hmem := List.getElem_mem hlt
          have hin : left[k] < ks.length := List.mem_range.1 (List.mem_filter.1 hmem).1
          have hin2 : left[k] < ces.toList.length := by rw [← hl1]; exact hin
          have hin3 : left[k] < vs.length := by omega
          have hf : f left[k] = ces.toList[left[k]] := by simp only [f]; rw [List.getD, List.getElem?_eq_getElem hin2]; rfl
          obtain ⟨m1, hm1, hi1, hr1⟩ := hks.get (List.getElem?_eq_getElem hin)
          obtain ⟨m2, hm2, hi2, hr2⟩ := hvs.get (List.getElem?_eq_getElem hin3)
          rw [List.getElem?_eq_getElem hin2] at hm1 hm2
          cases hm1; cases hm2
          rw [hf] at hck
          have hw' : w'.heap[j.blk]? = some (.mapIter (some r) last st.toArray last) := by rw [hheap]; exact hw
          have hso := run_setObj (P := P) (ob' := .mapIter (some r) last (st.toArray.push (ces.toList[left[k]]).born) last) hw' (fun _ _ _ h => by cases h)
          have S2 := S'.objSet hj hbase hw' (fun _ _ _ h => by cases h) hM hb rfl (ob' := .mapIter (some r) last (st.toArray.push (ces.toList[left[k]]).born) last) (o' := .rmapIter ks vs (seen ++ [left[k]]))
            ⟨⟨r, ces, last, last, by
              rw [objSet_get hw']
              simp only [st, List.map_append, List.map_cons, List.map_nil, List.getElem?_eq_getElem hin2, Option.map_some, Option.getD_some]
              simp, fun q hq => by
              rcases List.mem_append.1 hq with h | h
              · exact hseen q h
              · rw [List.mem_singleton.1 h]; exact hin, rfl, hMo, hks, hvs, hborn, hnd⟩, hM, hoff⟩
          refine ⟨(.tuple [.bool true, ks.getD left[k] V.undef, vs.getD left[k] V.undef], some (b, .rmapIter ks vs (seen ++ [left[k]]))), List.mem_map.2 ⟨left[k], hmem, rfl⟩, _, .tuple #[.bool true, (ces.toList[left[k]]).key, (ces.toList[left[k]]).val], hrun _ rfl _ _ (by rw [hck]; simp only [Sem.run_bind, hso, Result.andThen_ok, Sem.run_pure]), ?_, S2⟩
          have e1 : ks.getD left[k] V.undef = ks[left[k]] := by simp [List.getD, hin]
          have e2 : vs.getD left[k] V.undef = vs[left[k]] := by simp [List.getD, hin3]
          rw [e1, e2]
          exact tup_entry hr1 hr2
      · cases hev
    · cases hev
  · cases hev

theorem f_entry (G : Globs gl M) (E : EnvRel M β N e a) (S : Sim M β hp.get w0 w) (hg : ∀ b o, g b = some o → hp.get b = some o) {x : Operand} (ho : o.op = .entry x) {x' : X} (hx : cX gl x = some x') (hev : evI g id e (.entry x') = some eff) :
    Follows P M β w0 w (execOp a.eval o) hp id eff := by
  have hr := cX_rel G E hx
  have tup2 : ∀ {k v : V} {c d : Value}, Rel M β k c → Rel M β v d → Rel M β (.tuple [k, v]) (.tuple #[c, d]) := fun h h' => by
    simp only [Rel, RelL]; exact ⟨_, rfl, _, _, rfl, h, _, _, rfl, h', rfl⟩
  simp only [evI] at hev
  split at hev
  · rename_i b hv
    rw [hv] at hr; simp only [Rel] at hr
    obtain ⟨j, hj, he⟩ := hr
    split at hev
    · rename_i m since seen stepped hb
      split at hev
      · rename_i es clock fzn hm
        split at hev
        · rename_i stamp hs
          split at hev
          · rename_i hcl
            subst hcl
            simp only [Option.map_eq_some_iff] at hev
            obtain ⟨q, hq, rfl⟩ := hev
            obtain ⟨j', hj', hbase, ⟨r, hw, jm, hjm, hr⟩, hM, hoff⟩ := S.obj _ _ (hg _ _ hb)
            rw [hj] at hj'; cases hj'
            subst hr
            obtain ⟨jm', hjm', _, ces, hwm, hent, _⟩ := S.obj _ _ (hg _ _ hm)
            rw [hjm] at hjm'; cases hjm'
            have hgo := run_getObj (P := P) hw (fun _ _ _ h => by cases h)
            have hgm := run_getObj (P := P) hwm (fun _ _ _ h => by cases h)
            rw [hoff] at he
            obtain ⟨m', hm', h1, h2⟩ := hent.find (fun b => Nat.beq b stamp) hq
            have hback : seen.toArray.back? = some stamp := by simpa using hs
            have hfind : ces.find? (fun e => e.born == stamp) = some m' := by
              have hfn : (fun e : MapEntry => e.born == stamp) = (fun m : MapEntry => Nat.beq m.born stamp) := by
                funext m; rw [Bool.eq_iff_iff]; simp
              rw [← Array.find?_toList, hfn]; exact hm'
            refine Follows.same S (c := .tuple #[m'.key, m'.val]) ?_ (tup2 h1 h2)
            simp [execOp, ho, he, Instr.entry, hgo, hback, hgm, hfind]
          · cases hev
        · cases hev
      · cases hev
    · rename_i ks vs seen hb
      split at hev
      · rename_i ix hs
        split at hev
        · rename_i k v hk hv'
          cases hev
          obtain ⟨j', hj', hbase, ⟨r, ces, clock, last, hw, hseen, hlast, hMo, hks, hvs, hborn, hnd⟩, hM, hoff⟩ := S.obj _ _ (hg _ _ hb)
          rw [hj] at hj'; cases hj'
          subst hlast
          have hgo := run_getObj (P := P) hw (fun _ _ _ h => by cases h)
          have hgm := run_getObj (P := P) (S.memo _ _ hMo) (fun _ _ _ h => by cases h)
          rw [hoff] at he
          obtain ⟨m1, hm1, _, hr1⟩ := hks.get hk
          obtain ⟨m2, hm2, _, hr2⟩ := hvs.get hv'
          rw [hm1] at hm2; cases hm2
          have hback : (seen.map fun k => ((ces.toList[k]?).map (·.born)).getD 0).toArray.back? = some m1.born := by
            simp [hs]
            have : ces[ix]? = some m1 := by simpa using hm1
            simp [this]
          have hlt : ix < ces.toList.length := by
            rcases Nat.lt_or_ge ix ces.toList.length with h | h
            · exact h
            · rw [List.getElem?_eq_none h] at hm1; cases hm1
          have hm1' : ces.toList[ix] = m1 := by rw [List.getElem?_eq_getElem hlt] at hm1; exact Option.some.inj hm1
          have hfind : ces.find? (fun e => e.born == m1.born) = some m1 := by
            rw [← Array.find?_toList]
            cases hf : ces.toList.find? (fun e => e.born == m1.born) with
            | none =>
              rw [List.find?_eq_none] at hf
              have := hf m1 (List.mem_of_getElem? hm1)
              simp at this
            | some q =>
              have h1 := List.find?_some hf
              have h2 := List.mem_of_find?_eq_some hf
              obtain ⟨p, hp⟩ := List.mem_iff_getElem?.1 h2
              have hpl : p < ces.toList.length := by
                rcases Nat.lt_or_ge p ces.toList.length with h | h
                · exact h
                · rw [List.getElem?_eq_none h] at hp; cases hp
              have hp' : ces.toList[p] = q := by rw [List.getElem?_eq_getElem hpl] at hp; exact Option.some.inj hp
              have hpx : p = ix := (List.getElem_inj (h₀ := by simpa using hpl) (h₁ := by simpa using hlt) hnd).1 (by
                simp only [List.getElem_map, hp', hm1']; simpa using h1)
              subst hpx
              rw [← hp', hm1']
          refine Follows.same S (c := .tuple #[m1.key, m1.val]) ?_ (tup2 hr1 hr2)
          simp only [execOp, ho, he, Nat.zero_add, Instr.entry, Sem.run_bind, hgo, Result.andThen_ok, hback, hgm, bne_self_eq_false, Bool.false_eq_true, if_false, hfind, Sem.run_pure]
        · cases hev
      · cases hev
    · cases hev
  · cases hev

end
end Go.Abs

/-
  ABS, part 21: every operation that is compiled is followed.
-/
namespace Go.Abs
open Go Go.RowKit
set_option linter.unusedSectionVars false
variable [Syms]

section
variable {P : Program} {M : Mem} {β : Places} {w0 w : World} {hp : Heap} {id N : Nat} {e : Env} {a : Act} {gl : Nat → Option (List V)} {g : View} {o : Oper} {i : I} {eff : Eff}

theorem f_binop (G : Globs gl M) (E : EnvRel M β N e a) (S : Sim M β hp.get w0 w) {op : BinOp} {t u : TypeId} {x y : Operand} (ho : o.op = .binOp op t x y u) (hc : cOp P gl (.binOp op t x y u) = some i) (hev : evI g id e i = some eff) :
    Follows P M β w0 w (execOp a.eval o) hp id eff := by
  simp only [cOp, Option.bind_eq_some_iff] at hc
  obtain ⟨x', hx, y', hy, hc⟩ := hc
  split at hc
  · split at hc
    · cases hc; exact f_bin G E S ho hx hy hev
    · cases hc; exact f_bin G E S ho hx hy hev
    · simp only [Option.map_eq_some_iff] at hc
      obtain ⟨k, hk, rfl⟩ := hc
      exact f_eq G E S (neg := false) ho hx hy hk hev
  · split at hc
    · cases hc; exact f_bin G E S ho hx hy hev
    · cases hc; exact f_bin G E S ho hx hy hev
    · simp only [Option.map_eq_some_iff] at hc
      obtain ⟨k, hk, rfl⟩ := hc
      exact f_eq G E S (neg := true) ho hx hy hk hev
  · cases hc; exact f_bin G E S ho hx hy hev

theorem f_convert (G : Globs gl M) (E : EnvRel M β N e a) (S : Sim M β hp.get w0 w) {src dst : TypeId} {x : Operand} (ho : o.op = .convert src dst x) (hc : cOp P gl (.convert src dst x) = some i) (hev : evI g id e i = some eff) :
    Follows P M β w0 w (execOp a.eval o) hp id eff := by
  simp only [cOp, Option.bind_eq_some_iff] at hc
  obtain ⟨x', hx, hc⟩ := hc
  split at hc
  · rename_i hs hd; cases hc; exact f_convI G E S ho hs hd hx hev
  · rename_i hs hd; cases hc; exact f_convId G E S ho hs hd hx hev
  · rename_i hs hd; cases hc; exact f_runeS G E S ho hs hd hx hev
  · cases hc

theorem f_slice (G : Globs gl M) (E : EnvRel M β N e a) (S : Sim M β hp.get w0 w) (hg : ∀ b o, g b = some o → hp.get b = some o) {t : TypeId} {x : Operand} {lo hi mx : Option Operand} (ho : o.op = .slice t x lo hi mx) (hc : cOp P gl (.slice t x lo hi mx) = some i) (hev : evI g id e i = some eff) :
    Follows P M β w0 w (execOp a.eval o) hp id eff := by
  simp only [cOp, Option.bind_eq_some_iff] at hc
  obtain ⟨x', hx, lo', hlo, hi', hhi, mx', hmx, hc⟩ := hc
  split at hc
  · rename_i hd
    cases mx' with
    | some _ => cases hc
    | none =>
      have hmn : mx = none := by
        cases mx with
        | none => rfl
        | some m => simp only [cXo, Option.map_eq_some_iff] at hmx; obtain ⟨_, _, h⟩ := hmx; cases h
      subst hmn
      cases hc
      exact f_sliceS G E S ho hd hx hlo hhi hev
  · rename_i el hd
    simp only [Option.bind_eq_some_iff] at hc
    obtain ⟨n, hn, hc⟩ := hc
    have h1 : ∀ {q : Option Operand} {q' : Option X}, cXo gl q = some q' → q'.isSome = q.isSome := fun {q q'} h => by
      cases q with
      | none => simp only [cXo] at h; cases h; rfl
      | some m => simp only [cXo, Option.map_eq_some_iff] at h; obtain ⟨_, _, rfl⟩ := h; rfl
    have h2 : ∀ {q : Option Operand} {q' : Option X}, cXo gl q = some q' → q'.isNone = q.isNone := fun {q q'} h => by
      cases q with
      | none => simp only [cXo] at h; cases h; rfl
      | some m => simp only [cXo, Option.map_eq_some_iff] at h; obtain ⟨_, _, rfl⟩ := h; rfl
    split at hc
    · cases hc
    · rename_i hmh
      cases hc
      exact f_sliceL G E S hg ho hd hn (by rw [← h1 hmx, ← h2 hhi]; exact Bool.eq_false_iff.2 hmh) hx hlo hhi hmx hev
  · cases hc

theorem f_range (G : Globs gl M) (E : EnvRel M β N e a) (S : Sim M β hp.get w0 w) (hg : ∀ b o, g b = some o → hp.get b = some o) (hid : β id = none) {t : TypeId} {x : Operand} (ho : o.op = .range t x) (hc : cOp P gl (.range t x) = some i) (hev : evI g id e i = some eff) :
    Follows P M β w0 w (execOp a.eval o) hp id eff := by
  simp only [cOp, Option.bind_eq_some_iff] at hc
  obtain ⟨x', hx, hc⟩ := hc
  split at hc
  · rename_i hd; cases hc; exact f_rangeS G E S hid ho hd hx hev
  · rename_i kt el hd; cases hc; exact f_rangeM G E S hg hid ho hd hx hev
  · cases hc

theorem cXs_list : ∀ {l : List Operand} {l' : List X}, cXs gl l = some l' → l.length = l'.length ∧ ∀ (n : Nat) (x : Operand), l[n]? = some x → ∃ x', l'[n]? = some x' ∧ cX gl x = some x'
  | [], l', h => by simp only [cXs, List.mapM_nil] at h; cases h; exact ⟨rfl, fun n x h => by simp at h⟩
  | y :: l, l', h => by
    simp only [cXs, List.mapM_cons, Option.pure_def, Option.bind_eq_bind, Option.bind_eq_some_iff, Option.some.injEq] at h
    obtain ⟨y', hy, ys, hys, rfl⟩ := h
    obtain ⟨h1, h2⟩ := cXs_list hys
    refine ⟨by simp [h1], fun n x h => ?_⟩
    cases n with
    | zero => simp at h; subst h; exact ⟨y', rfl, hy⟩
    | succ n => simp at h; exact h2 n x h

theorem cXs_one {l : List Operand} {x' : X} (h : cXs gl l = some [x']) : ∃ x, l = [x] ∧ cX gl x = some x' := by
  obtain ⟨h1, h2⟩ := cXs_list h
  match l, h1 with
  | [x], _ => obtain ⟨x'', h3, h4⟩ := h2 0 x rfl; simp at h3; subst h3; exact ⟨x, rfl, h4⟩

theorem cXs_two {l : List Operand} {x' y' : X} (h : cXs gl l = some [x', y']) : ∃ x y, l = [x, y] ∧ cX gl x = some x' ∧ cX gl y = some y' := by
  obtain ⟨h1, h2⟩ := cXs_list h
  match l, h1 with
  | [x, y], _ =>
    obtain ⟨x'', h3, h4⟩ := h2 0 x rfl; simp at h3; subst h3
    obtain ⟨y'', h5, h6⟩ := h2 1 y rfl; simp at h5; subst h5
    exact ⟨x, y, rfl, h4, h6⟩

theorem f_call (G : Globs gl M) (E : EnvRel M β N e a) (S : Sim M β hp.get w0 w) (hg : ∀ b o, g b = some o → hp.get b = some o) (hid : β id = none) {c : Call} (ho : o.op = .call c) (hc : cOp P gl (.call c) = some i) (hev : evI g id e i = some eff) :
    Follows P M β w0 w (execOp a.eval o) hp id eff := by
  simp only [cOp, Option.bind_eq_some_iff] at hc
  obtain ⟨as, has, hc⟩ := hc
  split at hc
  · simp only [Option.map_eq_some_iff] at hc
    obtain ⟨_, _, rfl⟩ := hc
    simp only [evI] at hev; cases hev
  · cases hc
  · rename_i b hcal
    split at hc
    · rename_i x t hts
      obtain ⟨y, hl, hx⟩ := cXs_one has
      split at hc
      · rename_i hd; cases hc; exact f_lenStr G E S ho hcal hl hts hd hx hev
      · rename_i hd; cases hc; exact f_lenSlice G E S ho hcal hl hts hd hx hev
      · rename_i hd; cases hc; exact f_lenMap G E S hg ho hcal hl hts hd hx hev
      · cases hc
    · rename_i s x t u hts
      obtain ⟨y, z, hl, hx, hy⟩ := cXs_two has
      split at hc
      · rename_i el e' hd hu
        simp only [Option.bind_eq_some_iff] at hc
        obtain ⟨n, hn, b, hb, z, hz, hc⟩ := hc
        split at hc
        · rename_i hzl
          cases hc; exact f_append G E S hg hid ho hcal hl hts hd (.inl ⟨e', hu⟩) hn hb hz hzl hx hy hev
        · cases hc
      · rename_i el hd hu
        simp only [Option.bind_eq_some_iff] at hc
        obtain ⟨n, hn, b, hb, z, hz, hc⟩ := hc
        split at hc
        · rename_i hzl
          cases hc; exact f_append G E S hg hid ho hcal hl hts hd (.inr hu) hn hb hz hzl hx hy hev
        · cases hc
      · cases hc
    · rename_i d s t u hts
      obtain ⟨y, z, hl, hx, hy⟩ := cXs_two has
      split at hc
      · rename_i el hd
        simp only [Option.map_eq_some_iff] at hc
        obtain ⟨n, hn, rfl⟩ := hc
        exact f_copy G E S hg ho hcal hl hts hd hn hx hy hev
      · cases hc
    · rename_i m k t u hts
      obtain ⟨y, z, hl, hx, hy⟩ := cXs_two has
      split at hc
      · rename_i kt el hd
        simp only [Option.map_eq_some_iff] at hc
        obtain ⟨n, hn, rfl⟩ := hc
        exact f_delete G E S hg ho hcal hl hts hd hn hx hy hev
      · cases hc
    · obtain ⟨y, z, hl, hx, hy⟩ := cXs_two has
      cases hc; exact f_minmax G E S (mx := true) ho hcal hl hx hy hev
    · obtain ⟨y, z, hl, hx, hy⟩ := cXs_two has
      cases hc; exact f_minmax G E S (mx := false) ho hcal hl hx hy hev
    · cases hc; simp only [evI] at hev; cases hev
    · cases hc

/-- Every compiled operation is followed. -/
theorem follows_op (G : Globs gl M) (E : EnvRel M β N e a) (S : Sim M β hp.get w0 w) (hg : ∀ b o, g b = some o → hp.get b = some o) (hid : β id = none) (hc : cOp P gl o.op = some i) (hev : evI g id e i = some eff) :
    Follows P M β w0 w (execOp a.eval o) hp id eff := by
  generalize ho : o.op = op at hc
  cases op with
  | move x => exact f_move G E S (.inl ho) hc hev
  | assign x => exact f_move G E S (.inr ho) hc hev
  | pick c x y => exact f_pick G E S ho hc hev
  | alloc t => exact f_alloc S hid ho hc hev
  | box t x => exact f_box G E S hid ho hc hev
  | build t ps => exact f_build G E S ho hc hev
  | buildSlice t l ps => exact f_buildSlice G E S hid ho hc hev
  | insert t m k v => exact f_mapSet G E S hg (.inr ho) hc hev
  | mapUpdate t m k v => exact f_mapSet G E S hg (.inl ho) hc hev
  | load t x => exact f_load G E S hg ho hc hev
  | store t x y => exact f_store G E S hg ho hc hev
  | nilCheck x => exact f_nilCheck G E S ho hc hev
  | binOp op t x y u => exact f_binop G E S ho hc hev
  | unOp op t x => exact f_un G E S ho hc hev
  | convert s d x => exact f_convert G E S ho hc hev
  | makeInterface t x => exact f_iface G E S ho hc hev
  | makeFunc f x y => exact f_func G E S ho hc hev
  | makeMap t x => exact f_mkMap G E S hid ho hc hev
  | makeSlice t x y => exact f_mkSlice G E S hid ho hc hev
  | slice t x lo hi mx => exact f_slice G E S hg ho hc hev
  | fieldAddr t x f => exact f_fieldAddr G E S ho hc hev
  | field t x f => exact f_field G E S ho hc hev
  | indexAddr t x y => exact f_indexAddr G E S ho hc hev
  | index t x y => exact f_index G E S ho hc hev
  | lookup t x y ok => exact f_lookup G E S hg ho hc hev
  | range t x => exact f_range G E S hg hid ho hc hev
  | next x s =>
    simp only [cOp, Option.map_eq_some_iff] at hc
    obtain ⟨x', hx, rfl⟩ := hc
    cases s with
    | true => exact f_nextS G E S hg ho hx hev
    | false => simp only [Bool.false_eq_true, if_false, evI] at hev; cases hev
  | entry x =>
    simp only [cOp, Option.map_eq_some_iff] at hc
    obtain ⟨x', hx, rfl⟩ := hc
    exact f_entry G E S hg ho hx hev
  | typeAssert x u t ok => exact f_assertC G E S ho hc hev
  | extract x n => exact f_extract G E S ho hc hev
  | panic x =>
    simp only [cOp, Option.map_eq_some_iff] at hc
    obtain ⟨x', hx, rfl⟩ := hc
    simp only [evI] at hev; cases hev
  | call c => exact f_call G E S hg hid ho hc hev
  | defer c =>
    simp only [cOp, Option.bind_eq_some_iff] at hc
    obtain ⟨as, _, hc⟩ := hc
    split at hc
    · simp only [Option.map_eq_some_iff] at hc
      obtain ⟨_, _, rfl⟩ := hc
      simp only [evI] at hev; cases hev
    · cases hc
  | _ => simp only [cOp] at hc; cases hc

end
end Go.Abs

/-
  ABS, part 22: a run's state, told; operations one by one.
-/
namespace Go.Abs
open Go Go.RowKit
set_option linter.unusedSectionVars false
variable [Syms]

/-- The fence that asks nothing, in a frame or in a round of a loop. -/
abbrev fence (r : Option Nat) : Fence := { Fence.wide with round := r }

theorem callsIn_free {P : Program} {r : Option Nat} {n : Nat} {f : FuncId} {args : Array Value} {w : World} {R : Ending → World → Prop} (h : Calls P f args w R) : CallsIn (fence r) n P f args w R :=
  (callsIn_wide (n := n)).2 h

theorem calls_free {P : Program} {r : Option Nat} {n : Nat} {f : FuncId} {args : Array Value} {w : World} {R : Ending → World → Prop} (h : CallsIn (fence r) n P f args w R) : Calls P f args w R :=
  (callsIn_wide (n := n)).1 h

/-- What an activation has put off: loops' marks, and calls. -/
def DfrRel (M : Mem) (β : Places) : List Dfr → List Deferred → Prop
  | [], l => l = []
  | .mark d :: ds, l => ∃ i rest, β d = some i ∧ l = { target := .collected i.blk, args := #[] } :: rest ∧ DfrRel M β ds rest
  | .call f args :: ds, l => ∃ (dargs captured : Array Value) (rest : List Deferred), l = { target := .fn (.func f) captured, args := dargs } :: rest ∧ RelL M β args (dargs ++ captured).toList ∧ DfrRel M β ds rest

theorem DfrRel.mono {M M' : Mem} {β β' : Places} (hM : M.le M') (hβ : β.le β') : ∀ {ds : List Dfr} {l : List Deferred}, DfrRel M β ds l → DfrRel M' β' ds l
  | [], _, h => h
  | .mark _ :: _, _, ⟨i, rest, h1, h2, h3⟩ => ⟨i, rest, hβ _ _ h1, h2, h3.mono hM hβ⟩
  | .call _ _ :: _, _, ⟨d, c, rest, h1, h2, h3⟩ => ⟨d, c, rest, h1, h2.mono hM hβ, h3.mono hM hβ⟩

structure Cfg (gl : Nat → Option (List V)) (M : Mem) (β : Places) (N : Nat) (w0 : World) (st : FSt) (a : Act) (w : World) : Prop where
  globs : Globs gl M
  env : EnvRel M β N st.env a
  sim : Sim M β st.h.get w0 w
  fresh : ∀ b, st.nid ≤ b → β b = none
  dfr : DfrRel M β st.dfr a.defers

def ChainRel (M : Mem) (β : Places) : List V → List PanicEntry → Prop
  | [], c => c = []
  | v :: l, c => ∃ p c', c = p :: c' ∧ Rel M β v p.v ∧ p.recovered = false ∧ p.goexit = false ∧ ChainRel M β l c'

def ExRel (M : Mem) (β : Places) : Ex → Exit → Prop
  | .normal, .normal => True
  | .exit i, .exit j => i = j
  | .goto i, .goto j => i = j
  | .ret, .ret => True
  | .panic ch, .panic c => ChainRel M β ch c
  | _, _ => False

/-- What has come to be held lies above a bound. -/
def Mem.above (B : Nat) (M M' : Mem) : Prop := (∀ a c, M'.c a = some c → M.c a = some c ∨ B ≤ a.block) ∧ ∀ r o, M'.o r = some o → M.o r = some o ∨ B ≤ r

theorem Mem.above.refl (B : Nat) (M : Mem) : M.above B M := ⟨fun _ _ h => .inl h, fun _ _ h => .inl h⟩
theorem Mem.above.trans {B : Nat} {M1 M2 M3 : Mem} (h : M1.above B M2) (k : M2.above B M3) : M1.above B M3 :=
  ⟨fun a c e => (k.1 a c e).elim (h.1 a c) .inr, fun a c e => (k.2 a c e).elim (h.2 a c) .inr⟩

/-- More is held, and that above a bound. -/
def Mem.on (B : Nat) (M M' : Mem) : Prop := M.le M' ∧ M.above B M'
theorem Mem.on.refl (B : Nat) (M : Mem) : M.on B M := ⟨.refl M, .refl B M⟩
theorem Mem.on.trans {B : Nat} {M1 M2 M3 : Mem} (h : M1.on B M2) (k : M2.on B M3) : M1.on B M3 := ⟨h.1.trans k.1, h.2.trans k.2⟩

/-- What holds at a way out. -/
def Post (gl : Nat → Option (List V)) (N : Nat) (w0 : World) (M0 : Mem) (β0 : Places) (K : Ex → FSt → Prop) : Exit → Act → World → Prop :=
  fun x a w => ∃ M β ex st, M0.on w0.heap.size M ∧ β0.le β ∧ Cfg gl M β N w0 st a w ∧ ExRel M β ex x ∧ K ex st

def EndRel (M : Mem) (β : Places) : End → Ending → Prop
  | .returned v, .returned c => Rel M β v c
  | .panicked ch, .panicked c => ChainRel M β ch c
  | _, _ => False

def FnOk (P : Program) (f : FuncId) : Prop := ∃ fn, P.funcs[f]? = some fn ∧ fn.body.isNone = false ∧ (fn.name == "runtime.NumGoroutine") = false

abbrev CallF := FuncId → List V → Heap → Nat → (End → Heap → Nat → Prop) → Prop

def CallPost (M : Mem) (β : Places) (w0 : World) (K : End → Heap → Nat → Prop) : Ending → World → Prop :=
  fun e w' => ∃ M' β' en h' nid', M.on w0.heap.size M' ∧ β.le β' ∧ Sim M' β' h'.get w0 w' ∧ (∀ b, nid' ≤ b → β' b = none) ∧ EndRel M' β' en e ∧ K en h' nid'

/-- A call, as an operation finds it: of a function with a body, or of one that the model has at hand. -/
def OpCall (P : Program) (f : FuncId) (args : Array Value) (w : World) (R : Ending → World → Prop) : Prop :=
  (FnOk P f ∧ Calls P f args w R) ∨ ∃ c w', (callFunc f args).run P w = .ok (.value c) w' ∧ R (.returned c) w'

theorem OpCall.mono {P : Program} {f : FuncId} {args : Array Value} {w : World} {R R' : Ending → World → Prop} (h : OpCall P f args w R) (hr : ∀ e w', R e w' → R' e w') : OpCall P f args w R' :=
  h.imp (fun ⟨a, b⟩ => ⟨a, b.mono hr⟩) fun ⟨c, w', a, b⟩ => ⟨c, w', a, hr _ _ b⟩

/-- Calls are told by the evaluator's call, from some memory and places on. -/
def CallOk (P : Program) (gl : Nat → Option (List V)) (M1 : Mem) (β1 : Places) (call : CallF) : Prop :=
  ∀ f args h nid K, call f args h nid K → ∀ M β w0 w (cargs : List Value), M1.le M → β1.le β → Globs gl M → Sim M β h.get w0 w → (∀ b, nid ≤ b → β b = none) → RelL M β args cargs →
    OpCall P f cargs.toArray w (CallPost M β w0 K)

/-- Rounds of loops over functions are told by the evaluator's yields, from some memory and places on. -/
def YldOk (P : Program) (gl : Nat → Option (List V)) (M1 : Mem) (β1 : Places) (yld : Yld Prop) : Prop :=
  ∀ b args h nid K, yld b args h nid K → ∀ M β w0 w (cargs : List Value) i, M1.le M → β1.le β → Globs gl M → Sim M β h.get w0 w → (∀ b, nid ≤ b → β b = none) → RelL M β args cargs → β b = some i →
    ∃ fn tmps assign body, (Instr.yield i.blk cargs.toArray).run P w = .ok (.round i.blk fn tmps assign body) w ∧ ∀ r, RoundIn (fence r) 0 P i.blk fn tmps assign body w (CallPost M β w0 K)

theorem YldOk.mono {P : Program} {gl : Nat → Option (List V)} {M1 M2 : Mem} {β1 β2 : Places} {yld : Yld Prop} (h : YldOk P gl M1 β1 yld) (hM : M1.le M2) (hβ : β1.le β2) : YldOk P gl M2 β2 yld :=
  fun b args hp nid K hk M β w0 w cargs i h1 h2 => h b args hp nid K hk M β w0 w cargs i (hM.trans h1) (hβ.trans h2)

theorem YldOk.none (P : Program) (gl : Nat → Option (List V)) (M1 : Mem) (β1 : Places) : YldOk P gl M1 β1 noYld := fun _ _ _ _ _ hk => hk.elim

theorem ChainRel.mono {M M' : Mem} {β β' : Places} (hM : M.le M') (hβ : β.le β') : ∀ {l : List V} {c : List PanicEntry}, ChainRel M β l c → ChainRel M' β' l c
  | [], _, h => h
  | _ :: _, _, ⟨p, c', h1, h2, h3, h3', h4⟩ => ⟨p, c', h1, h2.mono hM hβ, h3, h3', ChainRel.mono hM hβ h4⟩

theorem rel_bool {M : Mem} {β : Places} {v : V} {b : Bool} (h : Rel M β v (.bool b)) : v = .bool b := by
  cases v <;> simp only [Rel] at h <;> simp_all
  all_goals (try (obtain ⟨_, h, _⟩ := h; cases h))
  all_goals (try (obtain ⟨_, _, h, _⟩ := h; cases h))

section
variable {P : Program} {M M0 : Mem} {β β0 : Places} {w0 w : World} {N : Nat} {a : Act} {gl : Nat → Option (List V)} {st : FSt}

theorem Cfg.wanted (C : Cfg gl M β N w0 st a w) {ops : Array Oper} {o : Oper} {o' : O} (hc : cOper P gl ops o = some o') : Region.wanted o (yielded ops a.tmps) = Abs.wanted st.env o'.guard := by
  unfold cOper at hc
  unfold Region.wanted
  split at hc
  · rename_i hg; cases hc; rw [hg]; rfl
  · rename_i j wt hg
    simp only [Option.map_eq_some_iff] at hc
    obtain ⟨t, ht, rfl⟩ := hc
    rw [hg]
    have hr := C.env.rel t
    rw [Array.getD_eq_getD_getElem?] at hr
    have no : (∀ b, st.env.at t ≠ .bool b) → Abs.wanted st.env (some (t, wt)) = false := fun hnb => by
      simp only [Abs.wanted]
    simp only [yielded, ht, Option.bind_some]
    cases hq : a.tmps[t]? with
    | none =>
      rw [hq, Option.getD_none] at hr
      rw [no fun b hb => by rw [hb] at hr; simp only [Rel] at hr; cases hr]
      exact beq_eq_false_iff_ne.2 (fun h => by cases h)
    | some c =>
      rw [hq, Option.getD_some] at hr
      by_cases hb : ∃ b, c = .bool b
      · obtain ⟨b, rfl⟩ := hb
        simp only [Abs.wanted, rel_bool hr]
        cases b <;> cases wt <;> decide
      · rw [no fun b hb' => by rw [hb'] at hr; simp only [Rel] at hr; exact hb ⟨b, hr⟩]
        cases c <;> first | rfl | (exact absurd ⟨_, rfl⟩ hb)

theorem cOper_spec {ops : Array Oper} {o : Oper} {o' : O} (hc : cOper P gl ops o = some o') : (cOp P gl o.op = some o'.i ∨ o'.i = .bad) ∧ o'.dst = o.dst := by
  have key : ∀ i, (cOp P gl o.op).getD .bad = i → cOp P gl o.op = some i ∨ i = .bad := fun i h => by
    cases e : cOp P gl o.op with
    | none => rw [e] at h; exact .inr h.symm
    | some x => rw [e] at h; exact .inl (congrArg some h)
  unfold cOper at hc
  split at hc
  · cases hc; exact ⟨key _ rfl, rfl⟩
  · simp only [Option.map_eq_some_iff] at hc
    obtain ⟨t, ht, rfl⟩ := hc
    exact ⟨key _ rfl, rfl⟩

/-- A value lands in its slot. -/
theorem Cfg.land (C : Cfg gl M β N w0 st a w) {M' : Mem} {β' : Places} {h' : Heap} {nid' : Nat} {w' : World} (hM : M.le M') (hβ : β.le β') (S : Sim M' β' h'.get w0 w') (hf : ∀ b, nid' ≤ b → β' b = none) {d : Option Nat} (hd : ∀ t, d = some t → t < N) {v : V} {c : Value} (hr : Rel M' β' v c) :
    Cfg gl M' β' N w0 { st with env := putDst st.env d v, h := h', nid := nid' } (a.put d c) w' where
  globs := C.globs.mono hM
  env := (C.env.mono hM hβ).put hd hr
  sim := S
  fresh := hf
  dfr := by
    have := C.dfr.mono hM hβ
    cases d <;> simpa [Act.put] using this

theorem cOp_call {op : Op} {fx : X} {as : List X} (h : cOp P gl op = some (.call fx as)) : ∃ c f, op = .call c ∧ c.callee = .value f ∧ cX gl f = some fx ∧ cXs gl c.args.toList = some as := by
  cases op
  case defer c =>
    simp only [cOp, Option.bind_eq_some_iff] at h
    obtain ⟨as', has, h⟩ := h
    split at h <;> simp at h
  case call c =>
    simp only [cOp, Option.bind_eq_some_iff] at h
    obtain ⟨as', has, h⟩ := h
    split at h
    · rename_i f hf
      simp only [Option.map_eq_some_iff] at h
      obtain ⟨fx', hfx, h⟩ := h
      cases h
      exact ⟨c, f, rfl, hf, hfx, has⟩
    · cases h
    · (repeat' split at h) <;> simp_all [Option.bind_eq_some_iff]
  case slice t x lo hi mx =>
    simp only [cOp, Option.bind_eq_some_iff] at h
    obtain ⟨_, _, _, _, _, _, _, _, h⟩ := h
    (repeat' split at h) <;> simp_all [Option.bind_eq_some_iff]
    all_goals ((repeat' split at h) <;> simp_all)
  all_goals (simp only [cOp] at h; (repeat' split at h) <;> simp_all [Option.bind_eq_some_iff])

theorem cOp_panic {op : Op} {x' : X} (h : cOp P gl op = some (.panic x')) : ∃ x, op = .panic x ∧ cX gl x = some x' := by
  cases op
  case defer c =>
    simp only [cOp, Option.bind_eq_some_iff] at h
    obtain ⟨as', has, h⟩ := h
    split at h <;> simp at h
  case panic x =>
    simp only [cOp, Option.map_eq_some_iff] at h
    obtain ⟨x'', hx, h⟩ := h
    cases h
    exact ⟨x, rfl, hx⟩
  case call c =>
    simp only [cOp, Option.bind_eq_some_iff] at h
    obtain ⟨as', has, h⟩ := h
    split at h
    · simp at h
    · cases h
    · (repeat' split at h) <;> simp_all [Option.bind_eq_some_iff]
  case slice t x lo hi mx =>
    simp only [cOp, Option.bind_eq_some_iff] at h
    obtain ⟨_, _, _, _, _, _, _, _, h⟩ := h
    (repeat' split at h) <;> simp_all [Option.bind_eq_some_iff]
    all_goals ((repeat' split at h) <;> simp_all)
  all_goals (simp only [cOp] at h; (repeat' split at h) <;> simp_all [Option.bind_eq_some_iff])

theorem cOp_nextM {op : Op} {x' : X} (h : cOp P gl op = some (.nextM x')) : ∃ x, op = .next x false ∧ cX gl x = some x' := by
  cases op
  case defer c =>
    simp only [cOp, Option.bind_eq_some_iff] at h
    obtain ⟨as', has, h⟩ := h
    split at h <;> simp at h
  case next x s =>
    simp only [cOp, Option.map_eq_some_iff] at h
    obtain ⟨x'', hx, h⟩ := h
    cases s
    · cases h; exact ⟨x, rfl, hx⟩
    · cases h
  case call c =>
    simp only [cOp, Option.bind_eq_some_iff] at h
    obtain ⟨as', has, h⟩ := h
    split at h
    · simp at h
    · cases h
    · (repeat' split at h) <;> simp_all [Option.bind_eq_some_iff]
  case slice t x lo hi mx =>
    simp only [cOp, Option.bind_eq_some_iff] at h
    obtain ⟨_, _, _, _, _, _, _, _, h⟩ := h
    (repeat' split at h) <;> simp_all [Option.bind_eq_some_iff]
    all_goals ((repeat' split at h) <;> simp_all)
  all_goals (simp only [cOp] at h; (repeat' split at h) <;> simp_all [Option.bind_eq_some_iff])

theorem cOp_defer {op : Op} {fx : X} {as : List X} (h : cOp P gl op = some (.defer fx as)) : ∃ c f, op = .defer c ∧ c.callee = .value f ∧ cX gl f = some fx ∧ cXs gl c.args.toList = some as := by
  cases op
  case defer c =>
    simp only [cOp, Option.bind_eq_some_iff] at h
    obtain ⟨as', has, h⟩ := h
    split at h
    · rename_i f hf
      simp only [Option.map_eq_some_iff] at h
      obtain ⟨fx', hfx, h⟩ := h
      cases h
      exact ⟨c, f, rfl, hf, hfx, has⟩
    · cases h
  case call c =>
    simp only [cOp, Option.bind_eq_some_iff] at h
    obtain ⟨as', has, h⟩ := h
    split at h
    · simp at h
    · cases h
    · (repeat' split at h) <;> simp_all [Option.bind_eq_some_iff]
  case slice t x lo hi mx =>
    simp only [cOp, Option.bind_eq_some_iff] at h
    obtain ⟨_, _, _, _, _, _, _, _, h⟩ := h
    (repeat' split at h) <;> simp_all [Option.bind_eq_some_iff]
    all_goals ((repeat' split at h) <;> simp_all)
  all_goals (simp only [cOp] at h; (repeat' split at h) <;> simp_all [Option.bind_eq_some_iff])

theorem resolve_rel (G : Globs gl M) {e : Env} (E : EnvRel M β N e a) {c : Call} {t : TypeId} {f : Operand} {fx : X} {as : List X} (hf : cX gl f = some fx) (has : cXs gl c.args.toList = some as) (hcal : c.callee = .value f) {q : FuncId × List V}
    (hr : Abs.resolve (fx.val e) (as.map (X.val e)) = some q) : ∃ first captured : Array Value, (∀ w, (Go.resolve a.eval c t).run P w = .ok { target := .fn (.func q.1) captured, args := first ++ c.args.map a.eval } w) ∧ RelL M β q.2 ((first ++ c.args.map a.eval) ++ captured).toList := by
  have h1 := cX_rel G E hf
  have h2 := cXs_rel G E has
  unfold Abs.resolve at hr
  split at hr
  · rename_i fn first captured hv
    cases hr
    rw [hv] at h1
    simp only [Rel] at h1
    obtain ⟨f', x, y, hf', he, hx, hy⟩ := h1
    simp only [FnRel] at hf'
    subst hf'
    refine ⟨x, y, fun w => ?_, ?_⟩
    · simp only [Go.resolve, hcal, he, Deferred.ofValue, Sem.run_pure]
    · simp only [Array.toList_append, Array.toList_map]
      exact (hx.append h2).append hy
  · cases hr

/-- A loop's own function, as an operation calls it. -/
theorem yielder_rel (G : Globs gl M) {e : Env} (E : EnvRel M β N e a) {c : Call} {t : TypeId} {f : Operand} {fx : X} {as : List X} (hf : cX gl f = some fx) (has : cXs gl c.args.toList = some as) (hcal : c.callee = .value f) {b : Nat}
    (hr : yielder (fx.val e) = some b) : ∃ i, β b = some i ∧ (∀ w, (Go.resolve a.eval c t).run P w = .ok { target := .fn (.yield i.blk) #[], args := c.args.map a.eval } w) ∧ RelL M β (as.map (X.val e)) (c.args.map a.eval).toList := by
  have h1 := cX_rel G E hf
  have h2 := cXs_rel G E has
  unfold yielder at hr
  split at hr
  · rename_i b' hv
    cases hr
    rw [hv] at h1
    simp only [Rel] at h1
    obtain ⟨f', x, y, hf', he, hx, hy⟩ := h1
    obtain ⟨i, hi, rfl⟩ := hf'
    have hx' : x = #[] := by have := RelL.nil_iff.1 hx; simpa using this
    have hy' : y = #[] := by have := RelL.nil_iff.1 hy; simpa using this
    subst hx' hy'
    refine ⟨i, hi, fun w => ?_, by simpa using h2⟩
    simp [Go.resolve, hcal, he, Deferred.ofValue]
  · cases hr

/-- A function value of the text's, handed what is at hand. -/
theorem resolve_rel' (G : Globs gl M) {e : Env} (E : EnvRel M β N e a) {c : Call} {t : TypeId} {f : Operand} {fx : X} {as : List V} (hf : cX gl f = some fx) {β' : Places} (hβ : β.le β') (has : RelL M β' as (c.args.map a.eval).toList) (hcal : c.callee = .value f) {q : FuncId × List V}
    (hr : Abs.resolve (fx.val e) as = some q) : ∃ first captured : Array Value, (∀ w, (Go.resolve a.eval c t).run P w = .ok { target := .fn (.func q.1) captured, args := first ++ c.args.map a.eval } w) ∧ RelL M β' q.2 ((first ++ c.args.map a.eval) ++ captured).toList := by
  have h1 := cX_rel G E hf
  unfold Abs.resolve at hr
  split at hr
  · rename_i fn first captured hv
    cases hr
    rw [hv] at h1
    simp only [Rel] at h1
    obtain ⟨f', x, y, hf', he, hx, hy⟩ := h1
    simp only [FnRel] at hf'
    subst hf'
    refine ⟨x, y, fun w => ?_, ?_⟩
    · simp only [Go.resolve, hcal, he, Deferred.ofValue, Sem.run_pure]
    · simp only [Array.toList_append]
      exact ((hx.mono (.refl M) hβ).append has).append (hy.mono (.refl M) hβ)
  · cases hr

end

/-- The text's operations, compiled one by one. -/
inductive Ops (P : Program) (gl : Nat → Option (List V)) (N : Nat) (ops : Array Oper) : List Nat → List O → Prop
  | nil : Ops P gl N ops [] []
  | cons {i : Nat} {is : List Nat} {o : Oper} {o' : O} {l : List O} : ops[i]? = some o → cOper P gl ops o = some o' → (∀ d, o'.dst = some d → d < N) → Ops P gl N ops is l → Ops P gl N ops (i :: is) (o' :: l)

section
variable {P : Program} {M0 : Mem} {β0 : Places} {w0 : World} {N : Nat} {gl : Nat → Option (List V)} {call : CallF} {yld : Yld Prop}

theorem evOps_ok {r : Option Nat} {ops : Array Oper} (hdf : r = none ∨ ∀ o ∈ ops.toList, isDefer o.op = false) (hcall : CallOk P gl M0 β0 call) (hyld : YldOk P gl M0 β0 yld) {is : List Nat} {l : List O} (H : Ops P gl N ops is l) : ∀ {M : Mem} {β : Places} {st : FSt} {a : Act} {w : World} {K : Ex → FSt → Prop}, M0.on w0.heap.size M → β0.le β → Cfg gl M β N w0 st a w → evOps call yld l st K →
    wpOpsIn (fence r) 0 P ops (Post gl N w0 M0 β0 K) is a w := by
  induction H with
  | nil => intro M β st a w K hM hβ C h; exact ⟨M, β, .normal, st, hM, hβ, C, trivial, h⟩
  | @cons i is o o' l ho hc hd _ ih =>
    intro M β st a w K hM hβ C h
    obtain ⟨hop, hdst⟩ := cOper_spec hc
    have hw := C.wanted hc
    unfold wpOpsIn
    simp only [ho, hw]
    unfold evOps at h
    split at h
    · rename_i hwt
      rw [if_pos hwt]
      refine ⟨fun _ _ => trivial, ?_⟩
      have hsem : (∀ c, o.op ≠ .defer c) → o.semAt r a.eval = execOp a.eval o := o.semAt_eq r a.eval
      show o.uponIn (fence r) 0 P a _ _ ((o.semAt r a.eval).run P w)
      split at h
      · -- a call
        rename_i fx as hi
        rw [hi] at hop
        obtain ⟨c, f, hoc, hcal, hfx, has⟩ := cOp_call (hop.resolve_right (fun h => by cases h))
        have hstep : ∀ {e : Ending} {w' : World}, CallPost M β w0 (fun e h nid => match e with
            | .returned v => evOps call yld l { st with env := putDst st.env o'.dst v, h, nid } K
            | .panicked ch => K (.panic ch) { st with h, nid }) e w' → match e with
            | .returned v => wpOpsIn (fence r) 0 P ops (Post gl N w0 M0 β0 K) is (a.put o.dst v) w'
            | .panicked chain => Post gl N w0 M0 β0 K (.panic chain) a w'
            | .outgrown => LetsOut (Post gl N w0 M0 β0 K) := fun {e w'} he => by
          obtain ⟨M', β', en, h', nid', hM', hβ', S', hf', hen, hK⟩ := he
          cases en with
          | returned v =>
            cases e with
            | returned cv =>
              simp only [EndRel] at hen
              simp only [← hdst]
              exact ih (hM.trans hM') (hβ.trans hβ') (C.land hM'.1 hβ' S' hf' hd hen) hK
            | panicked _ => cases hen
            | outgrown => cases hen
          | panicked ch =>
            cases e with
            | returned cv => cases hen
            | panicked chain =>
              exact ⟨M', β', .panic ch, { st with h := h', nid := nid' }, hM.trans hM', hβ.trans hβ', ⟨C.globs.mono hM'.1, C.env.mono hM'.1 hβ', S', hf', C.dfr.mono hM'.1 hβ'⟩, hen, hK⟩
            | outgrown => cases hen
        split at h
        · rename_i f' args hres
          obtain ⟨first, captured, hrun, hrel⟩ := resolve_rel (P := P) C.globs C.env (t := o.type) hfx has hcal hres
          have hc2 := hcall _ _ _ _ _ h M β w0 w _ hM.1 hβ C.globs C.sim (fun b hb => C.fresh b (by omega)) hrel
          simp only [Array.toArray_toList] at hc2
          have hcf : (execOp a.eval o).run P w = (callFunc f' ((first ++ c.args.map a.eval) ++ captured)).run P w := by
            simp only [execOp, hoc, Sem.run_bind, hrun, Result.andThen_ok, invoke]
          rw [hsem (fun c h => by rw [hoc] at h; cases h), hcf]
          rcases hc2 with ⟨⟨fn, hfn, hbody, hname⟩, hcalls⟩ | ⟨cv, w', hrunc, hR⟩
          · have hex : (callFunc f' ((first ++ c.args.map a.eval) ++ captured)).run P w = .ok (.enter f' ((first ++ c.args.map a.eval) ++ captured)) w := by
              simp only [Sem.run_bind, Result.andThen_ok, callFunc, run_program, hfn, hname, hbody, Bool.false_eq_true, if_false, Sem.run_pure]
            rw [hex, Oper.uponIn_enter]
            refine ⟨(fun h => by cases h), callsIn_free (hcalls.mono ?_)⟩
            intro e w' he
            have := hstep he
            cases e <;> exact this
          · rw [hrunc, Oper.uponIn_value]
            exact hstep hR
        · split at h
          · rename_i b hb
            obtain ⟨i, hi, hrun, hrel⟩ := yielder_rel (P := P) C.globs C.env (t := o.type) hfx has hcal hb
            obtain ⟨fn, tmps, assign, body, hy, hround⟩ := hyld _ _ _ _ _ h M β w0 w _ i hM.1 hβ C.globs C.sim (fun b hb => C.fresh b (by omega)) hrel hi
            simp only [Array.toArray_toList] at hy hround
            have hcf : (execOp a.eval o).run P w = (Instr.yield i.blk (c.args.map a.eval)).run P w := by
              simp only [execOp, hoc, Sem.run_bind, hrun, Result.andThen_ok, invoke]
            rw [hsem (fun c h => by rw [hoc] at h; cases h), hcf, hy, Oper.uponIn_round]
            refine ⟨(fun h => by cases h), (hround r).mono ?_⟩
            intro e w' he
            have := hstep he
            cases e <;> exact this
          · exact h.elim
      · -- a panic
        rename_i x' hi
        rw [hi] at hop
        obtain ⟨x, hox, hx⟩ := cOp_panic (hop.resolve_right (fun h => by cases h))
        have hr := cX_rel C.globs C.env hx
        split at h
        · rename_i t v hv
          rw [hv] at hr
          have hr' := hr
          simp only [Rel] at hr'
          obtain ⟨c, he, hcv⟩ := hr'
          have hex : (execOp a.eval o).run P w = .halt (.panic (.iface t c)) w := by
            simp [execOp, hox, he, Instr.panic, goPanic]
          rw [hsem (fun c h => by rw [hox] at h; cases h), hex, Oper.uponIn_panic]
          refine ⟨M, β, .panic [.iface t v], { st with nid := st.nid + 1 }, hM, hβ, ⟨C.globs, C.env, C.sim, fun b hb => C.fresh b (by simp at hb; omega), C.dfr⟩, ?_, h⟩
          simp only [ExRel, ChainRel]
          exact ⟨_, _, rfl, by rw [← he]; exact hr, rfl, rfl, rfl⟩
        · exact h.elim
      · -- a defer
        rename_i fx as hi
        rw [hi] at hop
        obtain ⟨c, f, hoc, hcal, hfx, has⟩ := cOp_defer (hop.resolve_right (fun h => by cases h))
        have hr0 : r = none := hdf.resolve_right fun hall => by
          have := hall o (by have := Array.mem_of_getElem? ho; simpa using this)
          rw [hoc] at this
          cases this
        subst hr0
        split at h
        · rename_i f' args hres
          obtain ⟨first, captured, hrun, hrel⟩ := resolve_rel (P := P) C.globs C.env (t := o.type) hfx has hcal hres
          have hex : (execOp a.eval o).run P w = .ok (.defer { target := .fn (.func f') captured, args := first ++ c.args.map a.eval }) w := by
            simp only [execOp, hoc, Sem.run_bind, hrun, Result.andThen_ok, Sem.run_pure]
          rw [Oper.semAt_none, hex, Oper.uponIn_defer, ← hdst]
          refine ih hM hβ ?_ h
          have C1 : Cfg gl M β N w0 { st with dfr := .call f' args :: st.dfr } { a with defers := { target := .fn (.func f') captured, args := first ++ c.args.map a.eval } :: a.defers } w :=
            ⟨C.globs, C.env.defers _, C.sim, C.fresh, ⟨_, _, _, rfl, hrel, C.dfr⟩⟩
          exact C1.land (.refl M) (.refl β) C.sim (nid' := st.nid + 1) (fun b hb => C.fresh b (by omega)) hd (undef_rel M β)
        · exact h.elim
      · exact h.elim
      · -- a step over a map
        rename_i x' hi
        rw [hi] at hop
        obtain ⟨x, hox, hx⟩ := cOp_nextM (hop.resolve_right (fun h => by cases h))
        split at h
        · rename_i cs hcs
          obtain ⟨c, hcm, w', cv, hrun, hrel, S'⟩ := f_nextM C.globs C.env C.sim hox hx hcs
          rw [hsem (fun c h => by rw [hox] at h; cases h), hrun, Oper.uponIn_value, ← hdst]
          have := h _ (List.mem_map.2 ⟨c, hcm, rfl⟩)
          refine ih hM hβ ?_ this
          have C' := C.land (.refl M) (.refl β) S' (nid' := st.nid + 1) (fun b hb => C.fresh b (by omega)) hd hrel
          exact C'
        · exact h.elim
      · rename_i i hn1 hn2 hn3 hn4 hn5
        split at h
        · rename_i eff hev
          have hop := hop.resolve_right (fun h => by rw [h] at hev; simp only [evI] at hev; cases hev)
          obtain ⟨β', w', c, hrun, hβ', hsame, S', hrel⟩ := follows_op (o := o) C.globs C.env C.sim (fun _ _ h => h) (C.fresh _ (Nat.le_refl _)) hop hev
          have C' := C.land (.refl M) hβ' S' (nid' := st.nid + 1) (fun b hb => by rw [hsame b (by omega)]; exact C.fresh b (by omega)) hd hrel
          have hnd : ∀ c, o.op ≠ .defer c := fun c hc => by
            rw [hc] at hop
            simp only [cOp, Option.bind_eq_some_iff] at hop
            obtain ⟨as', _, hop⟩ := hop
            split at hop
            · simp only [Option.map_eq_some_iff] at hop
              obtain ⟨_, _, hop⟩ := hop
              exact hn3 _ _ hop.symm
            · cases hop
          rw [hsem hnd]
          rcases hrun with hrun | ⟨hrun, rfl⟩
          · rw [hrun, Oper.uponIn_value, ← hdst]
            exact ih hM (hβ.trans hβ') C' h
          · rw [hrun, Oper.uponIn_skip, ← hdst]
            exact ih hM (hβ.trans hβ') C' h
        · exact h.elim
    · rename_i hwt
      rw [if_neg hwt, ← hdst]
      exact ⟨fun _ _ => trivial, ih hM hβ (C.land (.refl M) (.refl β) C.sim (fun b hb => C.fresh b (by omega)) hd (undef_rel M β)) h⟩

end
end Go.Abs
